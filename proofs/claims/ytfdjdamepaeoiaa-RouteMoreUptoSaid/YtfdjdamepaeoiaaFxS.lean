/- The struct types of the program, made by structs.py: their cells, how fields are read and written. -/
import Derived.Test.YtfdjdamepaeoiaaFxR
namespace Go.Fx

theorem Idn.pl (x : Idn) : Pl x.enc := by
  intro u hu
  simp only [Idn.enc, List.mem_map] at hu
  obtain ⟨i, _, rfl⟩ := hu
  rfl

structure annuletlaw13_Place where
  Self : Idn
  Nears : Value
  Entries : Value
def annuletlaw13_Place.enc (x : annuletlaw13_Place) : Array Value := catA [(x.Self).enc, #[x.Nears], #[x.Entries]]
theorem annuletlaw13_Place.size (x : annuletlaw13_Place) : x.enc.size = 18 := by rw [annuletlaw13_Place.enc, catA_size]; simp [szs, Idn.size]
theorem annuletlaw13_Place.one (x : annuletlaw13_Place) (h0 : x.Nears.oneCell' = true) (h1 : x.Entries.oneCell' = true) : Ones x.enc := Ones.cat (by
  intro p hp
  simp only [List.mem_cons, List.not_mem_nil, or_false] at hp
  rcases hp with rfl | rfl | rfl
  · exact Idn.one _
  · exact Ones.single h0
  · exact Ones.single h1)
theorem annuletlaw13_Place.s_Self (x : annuletlaw13_Place) : Sel x.enc 0 16 ((x.Self).enc) := Sel.cat [] ((x.Self).enc) [#[x.Nears], #[x.Entries]] (rfl) (Idn.size _)
theorem annuletlaw13_Place.u_Self (x : annuletlaw13_Place) (v : Idn) : Upd x.enc 0 (v.enc) (annuletlaw13_Place.enc { x with Self := v }) := Upd.cat [] ((x.Self).enc) (v.enc) [#[x.Nears], #[x.Entries]] (rfl) (by simp [Idn.size])
theorem annuletlaw13_Place.s_Nears (x : annuletlaw13_Place) : Sel x.enc 16 1 (#[x.Nears]) := Sel.cat [(x.Self).enc] (#[x.Nears]) [#[x.Entries]] (by simp [szs, Idn.size]) (rfl)
theorem annuletlaw13_Place.u_Nears (x : annuletlaw13_Place) (v : Value) : Upd x.enc 16 (#[v]) (annuletlaw13_Place.enc { x with Nears := v }) := Upd.cat [(x.Self).enc] (#[x.Nears]) (#[v]) [#[x.Entries]] (by simp [szs, Idn.size]) (rfl)
theorem annuletlaw13_Place.g_Nears (x : annuletlaw13_Place) : x.enc[16]? = some (x.Nears) := (annuletlaw13_Place.s_Nears x).one
theorem annuletlaw13_Place.s_Entries (x : annuletlaw13_Place) : Sel x.enc 17 1 (#[x.Entries]) := Sel.cat [(x.Self).enc, #[x.Nears]] (#[x.Entries]) [] (by simp [szs, Idn.size]) (rfl)
theorem annuletlaw13_Place.u_Entries (x : annuletlaw13_Place) (v : Value) : Upd x.enc 17 (#[v]) (annuletlaw13_Place.enc { x with Entries := v }) := Upd.cat [(x.Self).enc, #[x.Nears]] (#[x.Entries]) (#[v]) [] (by simp [szs, Idn.size]) (rfl)
theorem annuletlaw13_Place.g_Entries (x : annuletlaw13_Place) : x.enc[17]? = some (x.Entries) := (annuletlaw13_Place.s_Entries x).one
def annuletlaw13_Place.zero : annuletlaw13_Place := ⟨Idn.zero, .slice none 0 0, .slice none 0 0⟩

structure api_Near where
  N : Int
  ID : Idn
deriving DecidableEq
def api_Near.enc (x : api_Near) : Array Value := catA [#[Value.int .i64 x.N], (x.ID).enc]
theorem api_Near.size (x : api_Near) : x.enc.size = 17 := by rw [api_Near.enc, catA_size]; simp [szs, Idn.size]
theorem api_Near.one (x : api_Near) : Ones x.enc := Ones.cat (by
  intro p hp
  simp only [List.mem_cons, List.not_mem_nil, or_false] at hp
  rcases hp with rfl | rfl
  · exact Ones.single rfl
  · exact Idn.one _)
theorem api_Near.pl (x : api_Near) : Pl x.enc := Pl.cat (by
  intro p hp
  simp only [List.mem_cons, List.not_mem_nil, or_false] at hp
  rcases hp with rfl | rfl
  · exact Pl.single rfl
  · exact Idn.pl _)
theorem api_Near.s_N (x : api_Near) : Sel x.enc 0 1 (#[Value.int .i64 x.N]) := Sel.cat [] (#[Value.int .i64 x.N]) [(x.ID).enc] (rfl) (rfl)
theorem api_Near.u_N (x : api_Near) (v : Int) : Upd x.enc 0 (#[Value.int .i64 v]) (api_Near.enc { x with N := v }) := Upd.cat [] (#[Value.int .i64 x.N]) (#[Value.int .i64 v]) [(x.ID).enc] (rfl) (rfl)
theorem api_Near.g_N (x : api_Near) : x.enc[0]? = some (Value.int .i64 x.N) := (api_Near.s_N x).one
theorem api_Near.s_ID (x : api_Near) : Sel x.enc 1 16 ((x.ID).enc) := Sel.cat [#[Value.int .i64 x.N]] ((x.ID).enc) [] (by simp [szs]) (Idn.size _)
theorem api_Near.u_ID (x : api_Near) (v : Idn) : Upd x.enc 1 (v.enc) (api_Near.enc { x with ID := v }) := Upd.cat [#[Value.int .i64 x.N]] ((x.ID).enc) (v.enc) [] (by simp [szs]) (by simp [Idn.size])
def api_Near.zero : api_Near := ⟨0, Idn.zero⟩
theorem api_Near.inj {x y : api_Near} (h : x.enc = y.enc) : x = y := by
  have h0 := Option.some.inj (((api_Near.g_N x).symm.trans (by rw [h])).trans (api_Near.g_N y))
  simp only [Value.int.injEq, true_and] at h0
  have h1 := Idn.enc_inj (((api_Near.s_ID x).2.symm.trans (by rw [h])).trans (api_Near.s_ID y).2)
  cases x; cases y; simp only at h0 h1; subst h0 h1; rfl

structure api_Path where
  Who : Idn
  N : Int
deriving DecidableEq
def api_Path.enc (x : api_Path) : Array Value := catA [(x.Who).enc, #[Value.int .i64 x.N]]
theorem api_Path.size (x : api_Path) : x.enc.size = 17 := by rw [api_Path.enc, catA_size]; simp [szs, Idn.size]
theorem api_Path.one (x : api_Path) : Ones x.enc := Ones.cat (by
  intro p hp
  simp only [List.mem_cons, List.not_mem_nil, or_false] at hp
  rcases hp with rfl | rfl
  · exact Idn.one _
  · exact Ones.single rfl)
theorem api_Path.pl (x : api_Path) : Pl x.enc := Pl.cat (by
  intro p hp
  simp only [List.mem_cons, List.not_mem_nil, or_false] at hp
  rcases hp with rfl | rfl
  · exact Idn.pl _
  · exact Pl.single rfl)
theorem api_Path.s_Who (x : api_Path) : Sel x.enc 0 16 ((x.Who).enc) := Sel.cat [] ((x.Who).enc) [#[Value.int .i64 x.N]] (rfl) (Idn.size _)
theorem api_Path.u_Who (x : api_Path) (v : Idn) : Upd x.enc 0 (v.enc) (api_Path.enc { x with Who := v }) := Upd.cat [] ((x.Who).enc) (v.enc) [#[Value.int .i64 x.N]] (rfl) (by simp [Idn.size])
theorem api_Path.s_N (x : api_Path) : Sel x.enc 16 1 (#[Value.int .i64 x.N]) := Sel.cat [(x.Who).enc] (#[Value.int .i64 x.N]) [] (by simp [szs, Idn.size]) (rfl)
theorem api_Path.u_N (x : api_Path) (v : Int) : Upd x.enc 16 (#[Value.int .i64 v]) (api_Path.enc { x with N := v }) := Upd.cat [(x.Who).enc] (#[Value.int .i64 x.N]) (#[Value.int .i64 v]) [] (by simp [szs, Idn.size]) (rfl)
theorem api_Path.g_N (x : api_Path) : x.enc[16]? = some (Value.int .i64 x.N) := (api_Path.s_N x).one
def api_Path.zero : api_Path := ⟨Idn.zero, 0⟩
theorem api_Path.inj {x y : api_Path} (h : x.enc = y.enc) : x = y := by
  have h0 := Idn.enc_inj (((api_Path.s_Who x).2.symm.trans (by rw [h])).trans (api_Path.s_Who y).2)
  have h1 := Option.some.inj (((api_Path.g_N x).symm.trans (by rw [h])).trans (api_Path.g_N y))
  simp only [Value.int.injEq, true_and] at h1
  cases x; cases y; simp only at h0 h1; subst h0 h1; rfl

structure api_Entry where
  P : api_Path
  A : Idn
  B : Idn
  Na : Int
  Nb : Int
deriving DecidableEq
def api_Entry.enc (x : api_Entry) : Array Value := catA [(x.P).enc, (x.A).enc, (x.B).enc, #[Value.int .i64 x.Na], #[Value.int .i64 x.Nb]]
theorem api_Entry.size (x : api_Entry) : x.enc.size = 51 := by rw [api_Entry.enc, catA_size]; simp [szs, api_Path.size, Idn.size]
theorem api_Entry.one (x : api_Entry) : Ones x.enc := Ones.cat (by
  intro p hp
  simp only [List.mem_cons, List.not_mem_nil, or_false] at hp
  rcases hp with rfl | rfl | rfl | rfl | rfl
  · exact api_Path.one _
  · exact Idn.one _
  · exact Idn.one _
  · exact Ones.single rfl
  · exact Ones.single rfl)
theorem api_Entry.pl (x : api_Entry) : Pl x.enc := Pl.cat (by
  intro p hp
  simp only [List.mem_cons, List.not_mem_nil, or_false] at hp
  rcases hp with rfl | rfl | rfl | rfl | rfl
  · exact api_Path.pl _
  · exact Idn.pl _
  · exact Idn.pl _
  · exact Pl.single rfl
  · exact Pl.single rfl)
theorem api_Entry.s_P (x : api_Entry) : Sel x.enc 0 17 ((x.P).enc) := Sel.cat [] ((x.P).enc) [(x.A).enc, (x.B).enc, #[Value.int .i64 x.Na], #[Value.int .i64 x.Nb]] (rfl) (api_Path.size _)
theorem api_Entry.u_P (x : api_Entry) (v : api_Path) : Upd x.enc 0 (v.enc) (api_Entry.enc { x with P := v }) := Upd.cat [] ((x.P).enc) (v.enc) [(x.A).enc, (x.B).enc, #[Value.int .i64 x.Na], #[Value.int .i64 x.Nb]] (rfl) (by simp [api_Path.size])
theorem api_Entry.s_A (x : api_Entry) : Sel x.enc 17 16 ((x.A).enc) := Sel.cat [(x.P).enc] ((x.A).enc) [(x.B).enc, #[Value.int .i64 x.Na], #[Value.int .i64 x.Nb]] (by simp [szs, api_Path.size]) (Idn.size _)
theorem api_Entry.u_A (x : api_Entry) (v : Idn) : Upd x.enc 17 (v.enc) (api_Entry.enc { x with A := v }) := Upd.cat [(x.P).enc] ((x.A).enc) (v.enc) [(x.B).enc, #[Value.int .i64 x.Na], #[Value.int .i64 x.Nb]] (by simp [szs, api_Path.size]) (by simp [Idn.size])
theorem api_Entry.s_B (x : api_Entry) : Sel x.enc 33 16 ((x.B).enc) := Sel.cat [(x.P).enc, (x.A).enc] ((x.B).enc) [#[Value.int .i64 x.Na], #[Value.int .i64 x.Nb]] (by simp [szs, api_Path.size, Idn.size]) (Idn.size _)
theorem api_Entry.u_B (x : api_Entry) (v : Idn) : Upd x.enc 33 (v.enc) (api_Entry.enc { x with B := v }) := Upd.cat [(x.P).enc, (x.A).enc] ((x.B).enc) (v.enc) [#[Value.int .i64 x.Na], #[Value.int .i64 x.Nb]] (by simp [szs, api_Path.size, Idn.size]) (by simp [Idn.size])
theorem api_Entry.s_Na (x : api_Entry) : Sel x.enc 49 1 (#[Value.int .i64 x.Na]) := Sel.cat [(x.P).enc, (x.A).enc, (x.B).enc] (#[Value.int .i64 x.Na]) [#[Value.int .i64 x.Nb]] (by simp [szs, api_Path.size, Idn.size]) (rfl)
theorem api_Entry.u_Na (x : api_Entry) (v : Int) : Upd x.enc 49 (#[Value.int .i64 v]) (api_Entry.enc { x with Na := v }) := Upd.cat [(x.P).enc, (x.A).enc, (x.B).enc] (#[Value.int .i64 x.Na]) (#[Value.int .i64 v]) [#[Value.int .i64 x.Nb]] (by simp [szs, api_Path.size, Idn.size]) (rfl)
theorem api_Entry.g_Na (x : api_Entry) : x.enc[49]? = some (Value.int .i64 x.Na) := (api_Entry.s_Na x).one
theorem api_Entry.s_Nb (x : api_Entry) : Sel x.enc 50 1 (#[Value.int .i64 x.Nb]) := Sel.cat [(x.P).enc, (x.A).enc, (x.B).enc, #[Value.int .i64 x.Na]] (#[Value.int .i64 x.Nb]) [] (by simp [szs, api_Path.size, Idn.size]) (rfl)
theorem api_Entry.u_Nb (x : api_Entry) (v : Int) : Upd x.enc 50 (#[Value.int .i64 v]) (api_Entry.enc { x with Nb := v }) := Upd.cat [(x.P).enc, (x.A).enc, (x.B).enc, #[Value.int .i64 x.Na]] (#[Value.int .i64 x.Nb]) (#[Value.int .i64 v]) [] (by simp [szs, api_Path.size, Idn.size]) (rfl)
theorem api_Entry.g_Nb (x : api_Entry) : x.enc[50]? = some (Value.int .i64 x.Nb) := (api_Entry.s_Nb x).one
theorem api_Entry.s_P_Who (x : api_Entry) : Sel x.enc 0 16 (x.P.Who.enc) := (api_Entry.s_P x).trans (api_Path.s_Who _)
theorem api_Entry.u_P_Who (x : api_Entry) (v : Idn) : Upd x.enc 0 (v.enc) (api_Entry.enc { x with P := { x.P with Who := v } }) := Upd.trans (o := 0) (o' := 0) (api_Entry.s_P x) (api_Path.u_Who _ v) (by simp [Idn.size]) (api_Entry.u_P x _)
theorem api_Entry.g_P_N (x : api_Entry) : x.enc[16]? = some (Value.int .i64 x.P.N) := (api_Entry.s_P x).get (api_Path.g_N _)
theorem api_Entry.u_P_N (x : api_Entry) (v : Int) : Upd x.enc 16 (#[Value.int .i64 v]) (api_Entry.enc { x with P := { x.P with N := v } }) := Upd.trans (o := 0) (o' := 16) (api_Entry.s_P x) (api_Path.u_N _ v) (by simp) (api_Entry.u_P x _)
def api_Entry.zero : api_Entry := ⟨api_Path.zero, Idn.zero, Idn.zero, 0, 0⟩
theorem api_Entry.inj {x y : api_Entry} (h : x.enc = y.enc) : x = y := by
  have h0 := api_Path.inj (((api_Entry.s_P x).2.symm.trans (by rw [h])).trans (api_Entry.s_P y).2)
  have h1 := Idn.enc_inj (((api_Entry.s_A x).2.symm.trans (by rw [h])).trans (api_Entry.s_A y).2)
  have h2 := Idn.enc_inj (((api_Entry.s_B x).2.symm.trans (by rw [h])).trans (api_Entry.s_B y).2)
  have h3 := Option.some.inj (((api_Entry.g_Na x).symm.trans (by rw [h])).trans (api_Entry.g_Na y))
  simp only [Value.int.injEq, true_and] at h3
  have h4 := Option.some.inj (((api_Entry.g_Nb x).symm.trans (by rw [h])).trans (api_Entry.g_Nb y))
  simp only [Value.int.injEq, true_and] at h4
  cases x; cases y; simp only at h0 h1 h2 h3 h4; subst h0 h1 h2 h3 h4; rfl

structure route_Choice where
  ID : Idn
  Near : Bool
  P : api_Path
  N : Int
deriving DecidableEq
def route_Choice.enc (x : route_Choice) : Array Value := catA [(x.ID).enc, #[Value.bool x.Near], (x.P).enc, #[Value.int .i64 x.N]]
theorem route_Choice.size (x : route_Choice) : x.enc.size = 35 := by rw [route_Choice.enc, catA_size]; simp [szs, Idn.size, api_Path.size]
theorem route_Choice.one (x : route_Choice) : Ones x.enc := Ones.cat (by
  intro p hp
  simp only [List.mem_cons, List.not_mem_nil, or_false] at hp
  rcases hp with rfl | rfl | rfl | rfl
  · exact Idn.one _
  · exact Ones.single rfl
  · exact api_Path.one _
  · exact Ones.single rfl)
theorem route_Choice.pl (x : route_Choice) : Pl x.enc := Pl.cat (by
  intro p hp
  simp only [List.mem_cons, List.not_mem_nil, or_false] at hp
  rcases hp with rfl | rfl | rfl | rfl
  · exact Idn.pl _
  · exact Pl.single rfl
  · exact api_Path.pl _
  · exact Pl.single rfl)
theorem route_Choice.s_ID (x : route_Choice) : Sel x.enc 0 16 ((x.ID).enc) := Sel.cat [] ((x.ID).enc) [#[Value.bool x.Near], (x.P).enc, #[Value.int .i64 x.N]] (rfl) (Idn.size _)
theorem route_Choice.u_ID (x : route_Choice) (v : Idn) : Upd x.enc 0 (v.enc) (route_Choice.enc { x with ID := v }) := Upd.cat [] ((x.ID).enc) (v.enc) [#[Value.bool x.Near], (x.P).enc, #[Value.int .i64 x.N]] (rfl) (by simp [Idn.size])
theorem route_Choice.s_Near (x : route_Choice) : Sel x.enc 16 1 (#[Value.bool x.Near]) := Sel.cat [(x.ID).enc] (#[Value.bool x.Near]) [(x.P).enc, #[Value.int .i64 x.N]] (by simp [szs, Idn.size]) (rfl)
theorem route_Choice.u_Near (x : route_Choice) (v : Bool) : Upd x.enc 16 (#[Value.bool v]) (route_Choice.enc { x with Near := v }) := Upd.cat [(x.ID).enc] (#[Value.bool x.Near]) (#[Value.bool v]) [(x.P).enc, #[Value.int .i64 x.N]] (by simp [szs, Idn.size]) (rfl)
theorem route_Choice.g_Near (x : route_Choice) : x.enc[16]? = some (Value.bool x.Near) := (route_Choice.s_Near x).one
theorem route_Choice.s_P (x : route_Choice) : Sel x.enc 17 17 ((x.P).enc) := Sel.cat [(x.ID).enc, #[Value.bool x.Near]] ((x.P).enc) [#[Value.int .i64 x.N]] (by simp [szs, Idn.size]) (api_Path.size _)
theorem route_Choice.u_P (x : route_Choice) (v : api_Path) : Upd x.enc 17 (v.enc) (route_Choice.enc { x with P := v }) := Upd.cat [(x.ID).enc, #[Value.bool x.Near]] ((x.P).enc) (v.enc) [#[Value.int .i64 x.N]] (by simp [szs, Idn.size]) (by simp [api_Path.size])
theorem route_Choice.s_N (x : route_Choice) : Sel x.enc 34 1 (#[Value.int .i64 x.N]) := Sel.cat [(x.ID).enc, #[Value.bool x.Near], (x.P).enc] (#[Value.int .i64 x.N]) [] (by simp [szs, Idn.size, api_Path.size]) (rfl)
theorem route_Choice.u_N (x : route_Choice) (v : Int) : Upd x.enc 34 (#[Value.int .i64 v]) (route_Choice.enc { x with N := v }) := Upd.cat [(x.ID).enc, #[Value.bool x.Near], (x.P).enc] (#[Value.int .i64 x.N]) (#[Value.int .i64 v]) [] (by simp [szs, Idn.size, api_Path.size]) (rfl)
theorem route_Choice.g_N (x : route_Choice) : x.enc[34]? = some (Value.int .i64 x.N) := (route_Choice.s_N x).one
theorem route_Choice.s_P_Who (x : route_Choice) : Sel x.enc 17 16 (x.P.Who.enc) := (route_Choice.s_P x).trans (api_Path.s_Who _)
theorem route_Choice.u_P_Who (x : route_Choice) (v : Idn) : Upd x.enc 17 (v.enc) (route_Choice.enc { x with P := { x.P with Who := v } }) := Upd.trans (o := 17) (o' := 0) (route_Choice.s_P x) (api_Path.u_Who _ v) (by simp [Idn.size]) (route_Choice.u_P x _)
theorem route_Choice.g_P_N (x : route_Choice) : x.enc[33]? = some (Value.int .i64 x.P.N) := (route_Choice.s_P x).get (api_Path.g_N _)
theorem route_Choice.u_P_N (x : route_Choice) (v : Int) : Upd x.enc 33 (#[Value.int .i64 v]) (route_Choice.enc { x with P := { x.P with N := v } }) := Upd.trans (o := 17) (o' := 16) (route_Choice.s_P x) (api_Path.u_N _ v) (by simp) (route_Choice.u_P x _)
def route_Choice.zero : route_Choice := ⟨Idn.zero, false, api_Path.zero, 0⟩
theorem route_Choice.inj {x y : route_Choice} (h : x.enc = y.enc) : x = y := by
  have h0 := Idn.enc_inj (((route_Choice.s_ID x).2.symm.trans (by rw [h])).trans (route_Choice.s_ID y).2)
  have h1 := Option.some.inj (((route_Choice.g_Near x).symm.trans (by rw [h])).trans (route_Choice.g_Near y))
  simp only [Value.bool.injEq] at h1
  have h2 := api_Path.inj (((route_Choice.s_P x).2.symm.trans (by rw [h])).trans (route_Choice.s_P y).2)
  have h3 := Option.some.inj (((route_Choice.g_N x).symm.trans (by rw [h])).trans (route_Choice.g_N y))
  simp only [Value.int.injEq, true_and] at h3
  cases x; cases y; simp only at h0 h1 h2 h3; subst h0 h1 h2 h3; rfl

structure annuletref12_Table where
  L : Value
  Most : Int
def annuletref12_Table.enc (x : annuletref12_Table) : Array Value := catA [#[x.L], #[Value.int .i64 x.Most]]
theorem annuletref12_Table.size (x : annuletref12_Table) : x.enc.size = 2 := by rw [annuletref12_Table.enc, catA_size]; simp [szs]
theorem annuletref12_Table.one (x : annuletref12_Table) (h0 : x.L.oneCell' = true) : Ones x.enc := Ones.cat (by
  intro p hp
  simp only [List.mem_cons, List.not_mem_nil, or_false] at hp
  rcases hp with rfl | rfl
  · exact Ones.single h0
  · exact Ones.single rfl)
theorem annuletref12_Table.s_L (x : annuletref12_Table) : Sel x.enc 0 1 (#[x.L]) := Sel.cat [] (#[x.L]) [#[Value.int .i64 x.Most]] (rfl) (rfl)
theorem annuletref12_Table.u_L (x : annuletref12_Table) (v : Value) : Upd x.enc 0 (#[v]) (annuletref12_Table.enc { x with L := v }) := Upd.cat [] (#[x.L]) (#[v]) [#[Value.int .i64 x.Most]] (rfl) (rfl)
theorem annuletref12_Table.g_L (x : annuletref12_Table) : x.enc[0]? = some (x.L) := (annuletref12_Table.s_L x).one
theorem annuletref12_Table.s_Most (x : annuletref12_Table) : Sel x.enc 1 1 (#[Value.int .i64 x.Most]) := Sel.cat [#[x.L]] (#[Value.int .i64 x.Most]) [] (by simp [szs]) (rfl)
theorem annuletref12_Table.u_Most (x : annuletref12_Table) (v : Int) : Upd x.enc 1 (#[Value.int .i64 v]) (annuletref12_Table.enc { x with Most := v }) := Upd.cat [#[x.L]] (#[Value.int .i64 x.Most]) (#[Value.int .i64 v]) [] (by simp [szs]) (rfl)
theorem annuletref12_Table.g_Most (x : annuletref12_Table) : x.enc[1]? = some (Value.int .i64 x.Most) := (annuletref12_Table.s_Most x).one
def annuletref12_Table.zero : annuletref12_Table := ⟨.slice none 0 0, 0⟩

structure table_Table where
  most : Int
  m : Value
def table_Table.enc (x : table_Table) : Array Value := catA [#[Value.int .i64 x.most], #[x.m]]
theorem table_Table.size (x : table_Table) : x.enc.size = 2 := by rw [table_Table.enc, catA_size]; simp [szs]
theorem table_Table.one (x : table_Table) (h0 : x.m.oneCell' = true) : Ones x.enc := Ones.cat (by
  intro p hp
  simp only [List.mem_cons, List.not_mem_nil, or_false] at hp
  rcases hp with rfl | rfl
  · exact Ones.single rfl
  · exact Ones.single h0)
theorem table_Table.s_most (x : table_Table) : Sel x.enc 0 1 (#[Value.int .i64 x.most]) := Sel.cat [] (#[Value.int .i64 x.most]) [#[x.m]] (rfl) (rfl)
theorem table_Table.u_most (x : table_Table) (v : Int) : Upd x.enc 0 (#[Value.int .i64 v]) (table_Table.enc { x with most := v }) := Upd.cat [] (#[Value.int .i64 x.most]) (#[Value.int .i64 v]) [#[x.m]] (rfl) (rfl)
theorem table_Table.g_most (x : table_Table) : x.enc[0]? = some (Value.int .i64 x.most) := (table_Table.s_most x).one
theorem table_Table.s_m (x : table_Table) : Sel x.enc 1 1 (#[x.m]) := Sel.cat [#[Value.int .i64 x.most]] (#[x.m]) [] (by simp [szs]) (rfl)
theorem table_Table.u_m (x : table_Table) (v : Value) : Upd x.enc 1 (#[v]) (table_Table.enc { x with m := v }) := Upd.cat [#[Value.int .i64 x.most]] (#[x.m]) (#[v]) [] (by simp [szs]) (rfl)
theorem table_Table.g_m (x : table_Table) : x.enc[1]? = some (x.m) := (table_Table.s_m x).one
def table_Table.zero : table_Table := ⟨0, .map none⟩

structure annuletref19_Book where
  L : Value
def annuletref19_Book.enc (x : annuletref19_Book) : Array Value := catA [#[x.L]]
theorem annuletref19_Book.size (x : annuletref19_Book) : x.enc.size = 1 := by rw [annuletref19_Book.enc, catA_size]; simp [szs]
theorem annuletref19_Book.one (x : annuletref19_Book) (h0 : x.L.oneCell' = true) : Ones x.enc := Ones.cat (by
  intro p hp
  simp only [List.mem_cons, List.not_mem_nil, or_false] at hp
  rcases hp with rfl
  · exact Ones.single h0)
theorem annuletref19_Book.s_L (x : annuletref19_Book) : Sel x.enc 0 1 (#[x.L]) := Sel.cat [] (#[x.L]) [] (rfl) (rfl)
theorem annuletref19_Book.u_L (x : annuletref19_Book) (v : Value) : Upd x.enc 0 (#[v]) (annuletref19_Book.enc { x with L := v }) := Upd.cat [] (#[x.L]) (#[v]) [] (rfl) (rfl)
theorem annuletref19_Book.g_L (x : annuletref19_Book) : x.enc[0]? = some (x.L) := (annuletref19_Book.s_L x).one
def annuletref19_Book.zero : annuletref19_Book := ⟨.slice none 0 0⟩

structure api_Ver where
  N : Int
  Who : Idn
deriving DecidableEq
def api_Ver.enc (x : api_Ver) : Array Value := catA [#[Value.int .i64 x.N], (x.Who).enc]
theorem api_Ver.size (x : api_Ver) : x.enc.size = 17 := by rw [api_Ver.enc, catA_size]; simp [szs, Idn.size]
theorem api_Ver.one (x : api_Ver) : Ones x.enc := Ones.cat (by
  intro p hp
  simp only [List.mem_cons, List.not_mem_nil, or_false] at hp
  rcases hp with rfl | rfl
  · exact Ones.single rfl
  · exact Idn.one _)
theorem api_Ver.pl (x : api_Ver) : Pl x.enc := Pl.cat (by
  intro p hp
  simp only [List.mem_cons, List.not_mem_nil, or_false] at hp
  rcases hp with rfl | rfl
  · exact Pl.single rfl
  · exact Idn.pl _)
theorem api_Ver.s_N (x : api_Ver) : Sel x.enc 0 1 (#[Value.int .i64 x.N]) := Sel.cat [] (#[Value.int .i64 x.N]) [(x.Who).enc] (rfl) (rfl)
theorem api_Ver.u_N (x : api_Ver) (v : Int) : Upd x.enc 0 (#[Value.int .i64 v]) (api_Ver.enc { x with N := v }) := Upd.cat [] (#[Value.int .i64 x.N]) (#[Value.int .i64 v]) [(x.Who).enc] (rfl) (rfl)
theorem api_Ver.g_N (x : api_Ver) : x.enc[0]? = some (Value.int .i64 x.N) := (api_Ver.s_N x).one
theorem api_Ver.s_Who (x : api_Ver) : Sel x.enc 1 16 ((x.Who).enc) := Sel.cat [#[Value.int .i64 x.N]] ((x.Who).enc) [] (by simp [szs]) (Idn.size _)
theorem api_Ver.u_Who (x : api_Ver) (v : Idn) : Upd x.enc 1 (v.enc) (api_Ver.enc { x with Who := v }) := Upd.cat [#[Value.int .i64 x.N]] ((x.Who).enc) (v.enc) [] (by simp [szs]) (by simp [Idn.size])
def api_Ver.zero : api_Ver := ⟨0, Idn.zero⟩
theorem api_Ver.inj {x y : api_Ver} (h : x.enc = y.enc) : x = y := by
  have h0 := Option.some.inj (((api_Ver.g_N x).symm.trans (by rw [h])).trans (api_Ver.g_N y))
  simp only [Value.int.injEq, true_and] at h0
  have h1 := Idn.enc_inj (((api_Ver.s_Who x).2.symm.trans (by rw [h])).trans (api_Ver.s_Who y).2)
  cases x; cases y; simp only at h0 h1; subst h0 h1; rfl

structure annuletlaw19_Op where
  Kind : Int
  A : Idn
  B : Idn
  Ver : api_Ver
  IDs : Value
  Items : Value
def annuletlaw19_Op.enc (x : annuletlaw19_Op) : Array Value := catA [#[Value.int .i64 x.Kind], (x.A).enc, (x.B).enc, (x.Ver).enc, #[x.IDs], #[x.Items]]
theorem annuletlaw19_Op.size (x : annuletlaw19_Op) : x.enc.size = 52 := by rw [annuletlaw19_Op.enc, catA_size]; simp [szs, Idn.size, api_Ver.size]
theorem annuletlaw19_Op.one (x : annuletlaw19_Op) (h0 : x.IDs.oneCell' = true) (h1 : x.Items.oneCell' = true) : Ones x.enc := Ones.cat (by
  intro p hp
  simp only [List.mem_cons, List.not_mem_nil, or_false] at hp
  rcases hp with rfl | rfl | rfl | rfl | rfl | rfl
  · exact Ones.single rfl
  · exact Idn.one _
  · exact Idn.one _
  · exact api_Ver.one _
  · exact Ones.single h0
  · exact Ones.single h1)
theorem annuletlaw19_Op.s_Kind (x : annuletlaw19_Op) : Sel x.enc 0 1 (#[Value.int .i64 x.Kind]) := Sel.cat [] (#[Value.int .i64 x.Kind]) [(x.A).enc, (x.B).enc, (x.Ver).enc, #[x.IDs], #[x.Items]] (rfl) (rfl)
theorem annuletlaw19_Op.u_Kind (x : annuletlaw19_Op) (v : Int) : Upd x.enc 0 (#[Value.int .i64 v]) (annuletlaw19_Op.enc { x with Kind := v }) := Upd.cat [] (#[Value.int .i64 x.Kind]) (#[Value.int .i64 v]) [(x.A).enc, (x.B).enc, (x.Ver).enc, #[x.IDs], #[x.Items]] (rfl) (rfl)
theorem annuletlaw19_Op.g_Kind (x : annuletlaw19_Op) : x.enc[0]? = some (Value.int .i64 x.Kind) := (annuletlaw19_Op.s_Kind x).one
theorem annuletlaw19_Op.s_A (x : annuletlaw19_Op) : Sel x.enc 1 16 ((x.A).enc) := Sel.cat [#[Value.int .i64 x.Kind]] ((x.A).enc) [(x.B).enc, (x.Ver).enc, #[x.IDs], #[x.Items]] (by simp [szs]) (Idn.size _)
theorem annuletlaw19_Op.u_A (x : annuletlaw19_Op) (v : Idn) : Upd x.enc 1 (v.enc) (annuletlaw19_Op.enc { x with A := v }) := Upd.cat [#[Value.int .i64 x.Kind]] ((x.A).enc) (v.enc) [(x.B).enc, (x.Ver).enc, #[x.IDs], #[x.Items]] (by simp [szs]) (by simp [Idn.size])
theorem annuletlaw19_Op.s_B (x : annuletlaw19_Op) : Sel x.enc 17 16 ((x.B).enc) := Sel.cat [#[Value.int .i64 x.Kind], (x.A).enc] ((x.B).enc) [(x.Ver).enc, #[x.IDs], #[x.Items]] (by simp [szs, Idn.size]) (Idn.size _)
theorem annuletlaw19_Op.u_B (x : annuletlaw19_Op) (v : Idn) : Upd x.enc 17 (v.enc) (annuletlaw19_Op.enc { x with B := v }) := Upd.cat [#[Value.int .i64 x.Kind], (x.A).enc] ((x.B).enc) (v.enc) [(x.Ver).enc, #[x.IDs], #[x.Items]] (by simp [szs, Idn.size]) (by simp [Idn.size])
theorem annuletlaw19_Op.s_Ver (x : annuletlaw19_Op) : Sel x.enc 33 17 ((x.Ver).enc) := Sel.cat [#[Value.int .i64 x.Kind], (x.A).enc, (x.B).enc] ((x.Ver).enc) [#[x.IDs], #[x.Items]] (by simp [szs, Idn.size]) (api_Ver.size _)
theorem annuletlaw19_Op.u_Ver (x : annuletlaw19_Op) (v : api_Ver) : Upd x.enc 33 (v.enc) (annuletlaw19_Op.enc { x with Ver := v }) := Upd.cat [#[Value.int .i64 x.Kind], (x.A).enc, (x.B).enc] ((x.Ver).enc) (v.enc) [#[x.IDs], #[x.Items]] (by simp [szs, Idn.size]) (by simp [api_Ver.size])
theorem annuletlaw19_Op.s_IDs (x : annuletlaw19_Op) : Sel x.enc 50 1 (#[x.IDs]) := Sel.cat [#[Value.int .i64 x.Kind], (x.A).enc, (x.B).enc, (x.Ver).enc] (#[x.IDs]) [#[x.Items]] (by simp [szs, Idn.size, api_Ver.size]) (rfl)
theorem annuletlaw19_Op.u_IDs (x : annuletlaw19_Op) (v : Value) : Upd x.enc 50 (#[v]) (annuletlaw19_Op.enc { x with IDs := v }) := Upd.cat [#[Value.int .i64 x.Kind], (x.A).enc, (x.B).enc, (x.Ver).enc] (#[x.IDs]) (#[v]) [#[x.Items]] (by simp [szs, Idn.size, api_Ver.size]) (rfl)
theorem annuletlaw19_Op.g_IDs (x : annuletlaw19_Op) : x.enc[50]? = some (x.IDs) := (annuletlaw19_Op.s_IDs x).one
theorem annuletlaw19_Op.s_Items (x : annuletlaw19_Op) : Sel x.enc 51 1 (#[x.Items]) := Sel.cat [#[Value.int .i64 x.Kind], (x.A).enc, (x.B).enc, (x.Ver).enc, #[x.IDs]] (#[x.Items]) [] (by simp [szs, Idn.size, api_Ver.size]) (rfl)
theorem annuletlaw19_Op.u_Items (x : annuletlaw19_Op) (v : Value) : Upd x.enc 51 (#[v]) (annuletlaw19_Op.enc { x with Items := v }) := Upd.cat [#[Value.int .i64 x.Kind], (x.A).enc, (x.B).enc, (x.Ver).enc, #[x.IDs]] (#[x.Items]) (#[v]) [] (by simp [szs, Idn.size, api_Ver.size]) (rfl)
theorem annuletlaw19_Op.g_Items (x : annuletlaw19_Op) : x.enc[51]? = some (x.Items) := (annuletlaw19_Op.s_Items x).one
theorem annuletlaw19_Op.g_Ver_N (x : annuletlaw19_Op) : x.enc[33]? = some (Value.int .i64 x.Ver.N) := (annuletlaw19_Op.s_Ver x).get (api_Ver.g_N _)
theorem annuletlaw19_Op.u_Ver_N (x : annuletlaw19_Op) (v : Int) : Upd x.enc 33 (#[Value.int .i64 v]) (annuletlaw19_Op.enc { x with Ver := { x.Ver with N := v } }) := Upd.trans (o := 33) (o' := 0) (annuletlaw19_Op.s_Ver x) (api_Ver.u_N _ v) (by simp) (annuletlaw19_Op.u_Ver x _)
theorem annuletlaw19_Op.s_Ver_Who (x : annuletlaw19_Op) : Sel x.enc 34 16 (x.Ver.Who.enc) := (annuletlaw19_Op.s_Ver x).trans (api_Ver.s_Who _)
theorem annuletlaw19_Op.u_Ver_Who (x : annuletlaw19_Op) (v : Idn) : Upd x.enc 34 (v.enc) (annuletlaw19_Op.enc { x with Ver := { x.Ver with Who := v } }) := Upd.trans (o := 33) (o' := 1) (annuletlaw19_Op.s_Ver x) (api_Ver.u_Who _ v) (by simp [Idn.size]) (annuletlaw19_Op.u_Ver x _)
def annuletlaw19_Op.zero : annuletlaw19_Op := ⟨0, Idn.zero, Idn.zero, api_Ver.zero, .slice none 0 0, .slice none 0 0⟩

structure api_Item where
  Key : Idn
  Ver : api_Ver
  Val : Value
def api_Item.enc (x : api_Item) : Array Value := catA [(x.Key).enc, (x.Ver).enc, #[x.Val]]
theorem api_Item.size (x : api_Item) : x.enc.size = 34 := by rw [api_Item.enc, catA_size]; simp [szs, Idn.size, api_Ver.size]
theorem api_Item.one (x : api_Item) (h0 : x.Val.oneCell' = true) : Ones x.enc := Ones.cat (by
  intro p hp
  simp only [List.mem_cons, List.not_mem_nil, or_false] at hp
  rcases hp with rfl | rfl | rfl
  · exact Idn.one _
  · exact api_Ver.one _
  · exact Ones.single h0)
theorem api_Item.s_Key (x : api_Item) : Sel x.enc 0 16 ((x.Key).enc) := Sel.cat [] ((x.Key).enc) [(x.Ver).enc, #[x.Val]] (rfl) (Idn.size _)
theorem api_Item.u_Key (x : api_Item) (v : Idn) : Upd x.enc 0 (v.enc) (api_Item.enc { x with Key := v }) := Upd.cat [] ((x.Key).enc) (v.enc) [(x.Ver).enc, #[x.Val]] (rfl) (by simp [Idn.size])
theorem api_Item.s_Ver (x : api_Item) : Sel x.enc 16 17 ((x.Ver).enc) := Sel.cat [(x.Key).enc] ((x.Ver).enc) [#[x.Val]] (by simp [szs, Idn.size]) (api_Ver.size _)
theorem api_Item.u_Ver (x : api_Item) (v : api_Ver) : Upd x.enc 16 (v.enc) (api_Item.enc { x with Ver := v }) := Upd.cat [(x.Key).enc] ((x.Ver).enc) (v.enc) [#[x.Val]] (by simp [szs, Idn.size]) (by simp [api_Ver.size])
theorem api_Item.s_Val (x : api_Item) : Sel x.enc 33 1 (#[x.Val]) := Sel.cat [(x.Key).enc, (x.Ver).enc] (#[x.Val]) [] (by simp [szs, Idn.size, api_Ver.size]) (rfl)
theorem api_Item.u_Val (x : api_Item) (v : Value) : Upd x.enc 33 (#[v]) (api_Item.enc { x with Val := v }) := Upd.cat [(x.Key).enc, (x.Ver).enc] (#[x.Val]) (#[v]) [] (by simp [szs, Idn.size, api_Ver.size]) (rfl)
theorem api_Item.g_Val (x : api_Item) : x.enc[33]? = some (x.Val) := (api_Item.s_Val x).one
theorem api_Item.g_Ver_N (x : api_Item) : x.enc[16]? = some (Value.int .i64 x.Ver.N) := (api_Item.s_Ver x).get (api_Ver.g_N _)
theorem api_Item.u_Ver_N (x : api_Item) (v : Int) : Upd x.enc 16 (#[Value.int .i64 v]) (api_Item.enc { x with Ver := { x.Ver with N := v } }) := Upd.trans (o := 16) (o' := 0) (api_Item.s_Ver x) (api_Ver.u_N _ v) (by simp) (api_Item.u_Ver x _)
theorem api_Item.s_Ver_Who (x : api_Item) : Sel x.enc 17 16 (x.Ver.Who.enc) := (api_Item.s_Ver x).trans (api_Ver.s_Who _)
theorem api_Item.u_Ver_Who (x : api_Item) (v : Idn) : Upd x.enc 17 (v.enc) (api_Item.enc { x with Ver := { x.Ver with Who := v } }) := Upd.trans (o := 16) (o' := 1) (api_Item.s_Ver x) (api_Ver.u_Who _ v) (by simp [Idn.size]) (api_Item.u_Ver x _)
def api_Item.zero : api_Item := ⟨Idn.zero, api_Ver.zero, .slice none 0 0⟩

structure copies_Due where
  To : Idn
  Itm : api_Item
def copies_Due.enc (x : copies_Due) : Array Value := catA [(x.To).enc, (x.Itm).enc]
theorem copies_Due.size (x : copies_Due) : x.enc.size = 50 := by rw [copies_Due.enc, catA_size]; simp [szs, Idn.size, api_Item.size]
theorem copies_Due.one (x : copies_Due) (h0 : x.Itm.Val.oneCell' = true) : Ones x.enc := Ones.cat (by
  intro p hp
  simp only [List.mem_cons, List.not_mem_nil, or_false] at hp
  rcases hp with rfl | rfl
  · exact Idn.one _
  · exact api_Item.one _ h0)
theorem copies_Due.s_To (x : copies_Due) : Sel x.enc 0 16 ((x.To).enc) := Sel.cat [] ((x.To).enc) [(x.Itm).enc] (rfl) (Idn.size _)
theorem copies_Due.u_To (x : copies_Due) (v : Idn) : Upd x.enc 0 (v.enc) (copies_Due.enc { x with To := v }) := Upd.cat [] ((x.To).enc) (v.enc) [(x.Itm).enc] (rfl) (by simp [Idn.size])
theorem copies_Due.s_Itm (x : copies_Due) : Sel x.enc 16 34 ((x.Itm).enc) := Sel.cat [(x.To).enc] ((x.Itm).enc) [] (by simp [szs, Idn.size]) (api_Item.size _)
theorem copies_Due.u_Itm (x : copies_Due) (v : api_Item) : Upd x.enc 16 (v.enc) (copies_Due.enc { x with Itm := v }) := Upd.cat [(x.To).enc] ((x.Itm).enc) (v.enc) [] (by simp [szs, Idn.size]) (by simp [api_Item.size])
theorem copies_Due.s_Itm_Key (x : copies_Due) : Sel x.enc 16 16 (x.Itm.Key.enc) := (copies_Due.s_Itm x).trans (api_Item.s_Key _)
theorem copies_Due.u_Itm_Key (x : copies_Due) (v : Idn) : Upd x.enc 16 (v.enc) (copies_Due.enc { x with Itm := { x.Itm with Key := v } }) := Upd.trans (o := 16) (o' := 0) (copies_Due.s_Itm x) (api_Item.u_Key _ v) (by simp [Idn.size]) (copies_Due.u_Itm x _)
theorem copies_Due.s_Itm_Ver (x : copies_Due) : Sel x.enc 32 17 (x.Itm.Ver.enc) := (copies_Due.s_Itm x).trans (api_Item.s_Ver _)
theorem copies_Due.u_Itm_Ver (x : copies_Due) (v : api_Ver) : Upd x.enc 32 (v.enc) (copies_Due.enc { x with Itm := { x.Itm with Ver := v } }) := Upd.trans (o := 16) (o' := 16) (copies_Due.s_Itm x) (api_Item.u_Ver _ v) (by simp [api_Ver.size]) (copies_Due.u_Itm x _)
theorem copies_Due.g_Itm_Ver_N (x : copies_Due) : x.enc[32]? = some (Value.int .i64 x.Itm.Ver.N) := (copies_Due.s_Itm x).get (api_Item.g_Ver_N _)
theorem copies_Due.u_Itm_Ver_N (x : copies_Due) (v : Int) : Upd x.enc 32 (#[Value.int .i64 v]) (copies_Due.enc { x with Itm := { x.Itm with Ver := { x.Itm.Ver with N := v } } }) := Upd.trans (o := 16) (o' := 16) (copies_Due.s_Itm x) (api_Item.u_Ver_N _ v) (by simp) (copies_Due.u_Itm x _)
theorem copies_Due.s_Itm_Ver_Who (x : copies_Due) : Sel x.enc 33 16 (x.Itm.Ver.Who.enc) := (copies_Due.s_Itm x).trans (api_Item.s_Ver_Who _)
theorem copies_Due.u_Itm_Ver_Who (x : copies_Due) (v : Idn) : Upd x.enc 33 (v.enc) (copies_Due.enc { x with Itm := { x.Itm with Ver := { x.Itm.Ver with Who := v } } }) := Upd.trans (o := 16) (o' := 17) (copies_Due.s_Itm x) (api_Item.u_Ver_Who _ v) (by simp [Idn.size]) (copies_Due.u_Itm x _)
theorem copies_Due.g_Itm_Val (x : copies_Due) : x.enc[49]? = some (x.Itm.Val) := (copies_Due.s_Itm x).get (api_Item.g_Val _)
theorem copies_Due.u_Itm_Val (x : copies_Due) (v : Value) : Upd x.enc 49 (#[v]) (copies_Due.enc { x with Itm := { x.Itm with Val := v } }) := Upd.trans (o := 16) (o' := 33) (copies_Due.s_Itm x) (api_Item.u_Val _ v) (by simp) (copies_Due.u_Itm x _)
def copies_Due.zero : copies_Due := ⟨Idn.zero, api_Item.zero⟩

structure annuletref19_Due where
  To : Idn
  Itm : api_Item
def annuletref19_Due.enc (x : annuletref19_Due) : Array Value := catA [(x.To).enc, (x.Itm).enc]
theorem annuletref19_Due.size (x : annuletref19_Due) : x.enc.size = 50 := by rw [annuletref19_Due.enc, catA_size]; simp [szs, Idn.size, api_Item.size]
theorem annuletref19_Due.one (x : annuletref19_Due) (h0 : x.Itm.Val.oneCell' = true) : Ones x.enc := Ones.cat (by
  intro p hp
  simp only [List.mem_cons, List.not_mem_nil, or_false] at hp
  rcases hp with rfl | rfl
  · exact Idn.one _
  · exact api_Item.one _ h0)
theorem annuletref19_Due.s_To (x : annuletref19_Due) : Sel x.enc 0 16 ((x.To).enc) := Sel.cat [] ((x.To).enc) [(x.Itm).enc] (rfl) (Idn.size _)
theorem annuletref19_Due.u_To (x : annuletref19_Due) (v : Idn) : Upd x.enc 0 (v.enc) (annuletref19_Due.enc { x with To := v }) := Upd.cat [] ((x.To).enc) (v.enc) [(x.Itm).enc] (rfl) (by simp [Idn.size])
theorem annuletref19_Due.s_Itm (x : annuletref19_Due) : Sel x.enc 16 34 ((x.Itm).enc) := Sel.cat [(x.To).enc] ((x.Itm).enc) [] (by simp [szs, Idn.size]) (api_Item.size _)
theorem annuletref19_Due.u_Itm (x : annuletref19_Due) (v : api_Item) : Upd x.enc 16 (v.enc) (annuletref19_Due.enc { x with Itm := v }) := Upd.cat [(x.To).enc] ((x.Itm).enc) (v.enc) [] (by simp [szs, Idn.size]) (by simp [api_Item.size])
theorem annuletref19_Due.s_Itm_Key (x : annuletref19_Due) : Sel x.enc 16 16 (x.Itm.Key.enc) := (annuletref19_Due.s_Itm x).trans (api_Item.s_Key _)
theorem annuletref19_Due.u_Itm_Key (x : annuletref19_Due) (v : Idn) : Upd x.enc 16 (v.enc) (annuletref19_Due.enc { x with Itm := { x.Itm with Key := v } }) := Upd.trans (o := 16) (o' := 0) (annuletref19_Due.s_Itm x) (api_Item.u_Key _ v) (by simp [Idn.size]) (annuletref19_Due.u_Itm x _)
theorem annuletref19_Due.s_Itm_Ver (x : annuletref19_Due) : Sel x.enc 32 17 (x.Itm.Ver.enc) := (annuletref19_Due.s_Itm x).trans (api_Item.s_Ver _)
theorem annuletref19_Due.u_Itm_Ver (x : annuletref19_Due) (v : api_Ver) : Upd x.enc 32 (v.enc) (annuletref19_Due.enc { x with Itm := { x.Itm with Ver := v } }) := Upd.trans (o := 16) (o' := 16) (annuletref19_Due.s_Itm x) (api_Item.u_Ver _ v) (by simp [api_Ver.size]) (annuletref19_Due.u_Itm x _)
theorem annuletref19_Due.g_Itm_Ver_N (x : annuletref19_Due) : x.enc[32]? = some (Value.int .i64 x.Itm.Ver.N) := (annuletref19_Due.s_Itm x).get (api_Item.g_Ver_N _)
theorem annuletref19_Due.u_Itm_Ver_N (x : annuletref19_Due) (v : Int) : Upd x.enc 32 (#[Value.int .i64 v]) (annuletref19_Due.enc { x with Itm := { x.Itm with Ver := { x.Itm.Ver with N := v } } }) := Upd.trans (o := 16) (o' := 16) (annuletref19_Due.s_Itm x) (api_Item.u_Ver_N _ v) (by simp) (annuletref19_Due.u_Itm x _)
theorem annuletref19_Due.s_Itm_Ver_Who (x : annuletref19_Due) : Sel x.enc 33 16 (x.Itm.Ver.Who.enc) := (annuletref19_Due.s_Itm x).trans (api_Item.s_Ver_Who _)
theorem annuletref19_Due.u_Itm_Ver_Who (x : annuletref19_Due) (v : Idn) : Upd x.enc 33 (v.enc) (annuletref19_Due.enc { x with Itm := { x.Itm with Ver := { x.Itm.Ver with Who := v } } }) := Upd.trans (o := 16) (o' := 17) (annuletref19_Due.s_Itm x) (api_Item.u_Ver_Who _ v) (by simp [Idn.size]) (annuletref19_Due.u_Itm x _)
theorem annuletref19_Due.g_Itm_Val (x : annuletref19_Due) : x.enc[49]? = some (x.Itm.Val) := (annuletref19_Due.s_Itm x).get (api_Item.g_Val _)
theorem annuletref19_Due.u_Itm_Val (x : annuletref19_Due) (v : Value) : Upd x.enc 49 (#[v]) (annuletref19_Due.enc { x with Itm := { x.Itm with Val := v } }) := Upd.trans (o := 16) (o' := 33) (annuletref19_Due.s_Itm x) (api_Item.u_Val _ v) (by simp) (annuletref19_Due.u_Itm x _)
def annuletref19_Due.zero : annuletref19_Due := ⟨Idn.zero, api_Item.zero⟩

structure copies_Book where
  m : Value
def copies_Book.enc (x : copies_Book) : Array Value := catA [#[x.m]]
theorem copies_Book.size (x : copies_Book) : x.enc.size = 1 := by rw [copies_Book.enc, catA_size]; simp [szs]
theorem copies_Book.one (x : copies_Book) (h0 : x.m.oneCell' = true) : Ones x.enc := Ones.cat (by
  intro p hp
  simp only [List.mem_cons, List.not_mem_nil, or_false] at hp
  rcases hp with rfl
  · exact Ones.single h0)
theorem copies_Book.s_m (x : copies_Book) : Sel x.enc 0 1 (#[x.m]) := Sel.cat [] (#[x.m]) [] (rfl) (rfl)
theorem copies_Book.u_m (x : copies_Book) (v : Value) : Upd x.enc 0 (#[v]) (copies_Book.enc { x with m := v }) := Upd.cat [] (#[x.m]) (#[v]) [] (rfl) (rfl)
theorem copies_Book.g_m (x : copies_Book) : x.enc[0]? = some (x.m) := (copies_Book.s_m x).one
def copies_Book.zero : copies_Book := ⟨.map none⟩

structure copies_mark where
  id : Idn
  key : Idn
deriving DecidableEq
def copies_mark.enc (x : copies_mark) : Array Value := catA [(x.id).enc, (x.key).enc]
theorem copies_mark.size (x : copies_mark) : x.enc.size = 32 := by rw [copies_mark.enc, catA_size]; simp [szs, Idn.size]
theorem copies_mark.one (x : copies_mark) : Ones x.enc := Ones.cat (by
  intro p hp
  simp only [List.mem_cons, List.not_mem_nil, or_false] at hp
  rcases hp with rfl | rfl
  · exact Idn.one _
  · exact Idn.one _)
theorem copies_mark.pl (x : copies_mark) : Pl x.enc := Pl.cat (by
  intro p hp
  simp only [List.mem_cons, List.not_mem_nil, or_false] at hp
  rcases hp with rfl | rfl
  · exact Idn.pl _
  · exact Idn.pl _)
theorem copies_mark.s_id (x : copies_mark) : Sel x.enc 0 16 ((x.id).enc) := Sel.cat [] ((x.id).enc) [(x.key).enc] (rfl) (Idn.size _)
theorem copies_mark.u_id (x : copies_mark) (v : Idn) : Upd x.enc 0 (v.enc) (copies_mark.enc { x with id := v }) := Upd.cat [] ((x.id).enc) (v.enc) [(x.key).enc] (rfl) (by simp [Idn.size])
theorem copies_mark.s_key (x : copies_mark) : Sel x.enc 16 16 ((x.key).enc) := Sel.cat [(x.id).enc] ((x.key).enc) [] (by simp [szs, Idn.size]) (Idn.size _)
theorem copies_mark.u_key (x : copies_mark) (v : Idn) : Upd x.enc 16 (v.enc) (copies_mark.enc { x with key := v }) := Upd.cat [(x.id).enc] ((x.key).enc) (v.enc) [] (by simp [szs, Idn.size]) (by simp [Idn.size])
def copies_mark.zero : copies_mark := ⟨Idn.zero, Idn.zero⟩
theorem copies_mark.inj {x y : copies_mark} (h : x.enc = y.enc) : x = y := by
  have h0 := Idn.enc_inj (((copies_mark.s_id x).2.symm.trans (by rw [h])).trans (copies_mark.s_id y).2)
  have h1 := Idn.enc_inj (((copies_mark.s_key x).2.symm.trans (by rw [h])).trans (copies_mark.s_key y).2)
  cases x; cases y; simp only at h0 h1; subst h0 h1; rfl

structure annuletref19_Note where
  ID : Idn
  Key : Idn
  Ver : api_Ver
deriving DecidableEq
def annuletref19_Note.enc (x : annuletref19_Note) : Array Value := catA [(x.ID).enc, (x.Key).enc, (x.Ver).enc]
theorem annuletref19_Note.size (x : annuletref19_Note) : x.enc.size = 49 := by rw [annuletref19_Note.enc, catA_size]; simp [szs, Idn.size, api_Ver.size]
theorem annuletref19_Note.one (x : annuletref19_Note) : Ones x.enc := Ones.cat (by
  intro p hp
  simp only [List.mem_cons, List.not_mem_nil, or_false] at hp
  rcases hp with rfl | rfl | rfl
  · exact Idn.one _
  · exact Idn.one _
  · exact api_Ver.one _)
theorem annuletref19_Note.pl (x : annuletref19_Note) : Pl x.enc := Pl.cat (by
  intro p hp
  simp only [List.mem_cons, List.not_mem_nil, or_false] at hp
  rcases hp with rfl | rfl | rfl
  · exact Idn.pl _
  · exact Idn.pl _
  · exact api_Ver.pl _)
theorem annuletref19_Note.s_ID (x : annuletref19_Note) : Sel x.enc 0 16 ((x.ID).enc) := Sel.cat [] ((x.ID).enc) [(x.Key).enc, (x.Ver).enc] (rfl) (Idn.size _)
theorem annuletref19_Note.u_ID (x : annuletref19_Note) (v : Idn) : Upd x.enc 0 (v.enc) (annuletref19_Note.enc { x with ID := v }) := Upd.cat [] ((x.ID).enc) (v.enc) [(x.Key).enc, (x.Ver).enc] (rfl) (by simp [Idn.size])
theorem annuletref19_Note.s_Key (x : annuletref19_Note) : Sel x.enc 16 16 ((x.Key).enc) := Sel.cat [(x.ID).enc] ((x.Key).enc) [(x.Ver).enc] (by simp [szs, Idn.size]) (Idn.size _)
theorem annuletref19_Note.u_Key (x : annuletref19_Note) (v : Idn) : Upd x.enc 16 (v.enc) (annuletref19_Note.enc { x with Key := v }) := Upd.cat [(x.ID).enc] ((x.Key).enc) (v.enc) [(x.Ver).enc] (by simp [szs, Idn.size]) (by simp [Idn.size])
theorem annuletref19_Note.s_Ver (x : annuletref19_Note) : Sel x.enc 32 17 ((x.Ver).enc) := Sel.cat [(x.ID).enc, (x.Key).enc] ((x.Ver).enc) [] (by simp [szs, Idn.size]) (api_Ver.size _)
theorem annuletref19_Note.u_Ver (x : annuletref19_Note) (v : api_Ver) : Upd x.enc 32 (v.enc) (annuletref19_Note.enc { x with Ver := v }) := Upd.cat [(x.ID).enc, (x.Key).enc] ((x.Ver).enc) (v.enc) [] (by simp [szs, Idn.size]) (by simp [api_Ver.size])
theorem annuletref19_Note.g_Ver_N (x : annuletref19_Note) : x.enc[32]? = some (Value.int .i64 x.Ver.N) := (annuletref19_Note.s_Ver x).get (api_Ver.g_N _)
theorem annuletref19_Note.u_Ver_N (x : annuletref19_Note) (v : Int) : Upd x.enc 32 (#[Value.int .i64 v]) (annuletref19_Note.enc { x with Ver := { x.Ver with N := v } }) := Upd.trans (o := 32) (o' := 0) (annuletref19_Note.s_Ver x) (api_Ver.u_N _ v) (by simp) (annuletref19_Note.u_Ver x _)
theorem annuletref19_Note.s_Ver_Who (x : annuletref19_Note) : Sel x.enc 33 16 (x.Ver.Who.enc) := (annuletref19_Note.s_Ver x).trans (api_Ver.s_Who _)
theorem annuletref19_Note.u_Ver_Who (x : annuletref19_Note) (v : Idn) : Upd x.enc 33 (v.enc) (annuletref19_Note.enc { x with Ver := { x.Ver with Who := v } }) := Upd.trans (o := 32) (o' := 1) (annuletref19_Note.s_Ver x) (api_Ver.u_Who _ v) (by simp [Idn.size]) (annuletref19_Note.u_Ver x _)
def annuletref19_Note.zero : annuletref19_Note := ⟨Idn.zero, Idn.zero, api_Ver.zero⟩
theorem annuletref19_Note.inj {x y : annuletref19_Note} (h : x.enc = y.enc) : x = y := by
  have h0 := Idn.enc_inj (((annuletref19_Note.s_ID x).2.symm.trans (by rw [h])).trans (annuletref19_Note.s_ID y).2)
  have h1 := Idn.enc_inj (((annuletref19_Note.s_Key x).2.symm.trans (by rw [h])).trans (annuletref19_Note.s_Key y).2)
  have h2 := api_Ver.inj (((annuletref19_Note.s_Ver x).2.symm.trans (by rw [h])).trans (annuletref19_Note.s_Ver y).2)
  cases x; cases y; simp only at h0 h1 h2; subst h0 h1 h2; rfl

structure tear_Torn where
  Out : Value
  Lost : Value
def tear_Torn.enc (x : tear_Torn) : Array Value := catA [#[x.Out], #[x.Lost]]
theorem tear_Torn.size (x : tear_Torn) : x.enc.size = 2 := by rw [tear_Torn.enc, catA_size]; simp [szs]
theorem tear_Torn.one (x : tear_Torn) (h0 : x.Out.oneCell' = true) (h1 : x.Lost.oneCell' = true) : Ones x.enc := Ones.cat (by
  intro p hp
  simp only [List.mem_cons, List.not_mem_nil, or_false] at hp
  rcases hp with rfl | rfl
  · exact Ones.single h0
  · exact Ones.single h1)
theorem tear_Torn.s_Out (x : tear_Torn) : Sel x.enc 0 1 (#[x.Out]) := Sel.cat [] (#[x.Out]) [#[x.Lost]] (rfl) (rfl)
theorem tear_Torn.u_Out (x : tear_Torn) (v : Value) : Upd x.enc 0 (#[v]) (tear_Torn.enc { x with Out := v }) := Upd.cat [] (#[x.Out]) (#[v]) [#[x.Lost]] (rfl) (rfl)
theorem tear_Torn.g_Out (x : tear_Torn) : x.enc[0]? = some (x.Out) := (tear_Torn.s_Out x).one
theorem tear_Torn.s_Lost (x : tear_Torn) : Sel x.enc 1 1 (#[x.Lost]) := Sel.cat [#[x.Out]] (#[x.Lost]) [] (by simp [szs]) (rfl)
theorem tear_Torn.u_Lost (x : tear_Torn) (v : Value) : Upd x.enc 1 (#[v]) (tear_Torn.enc { x with Lost := v }) := Upd.cat [#[x.Out]] (#[x.Lost]) (#[v]) [] (by simp [szs]) (rfl)
theorem tear_Torn.g_Lost (x : tear_Torn) : x.enc[1]? = some (x.Lost) := (tear_Torn.s_Lost x).one
def tear_Torn.zero : tear_Torn := ⟨.slice none 0 0, .slice none 0 0⟩

structure api_Num where
  Inc : Int
  N : Int
deriving DecidableEq
def api_Num.enc (x : api_Num) : Array Value := catA [#[Value.int .i64 x.Inc], #[Value.int .i64 x.N]]
theorem api_Num.size (x : api_Num) : x.enc.size = 2 := by rw [api_Num.enc, catA_size]; simp [szs]
theorem api_Num.one (x : api_Num) : Ones x.enc := Ones.cat (by
  intro p hp
  simp only [List.mem_cons, List.not_mem_nil, or_false] at hp
  rcases hp with rfl | rfl
  · exact Ones.single rfl
  · exact Ones.single rfl)
theorem api_Num.pl (x : api_Num) : Pl x.enc := Pl.cat (by
  intro p hp
  simp only [List.mem_cons, List.not_mem_nil, or_false] at hp
  rcases hp with rfl | rfl
  · exact Pl.single rfl
  · exact Pl.single rfl)
theorem api_Num.s_Inc (x : api_Num) : Sel x.enc 0 1 (#[Value.int .i64 x.Inc]) := Sel.cat [] (#[Value.int .i64 x.Inc]) [#[Value.int .i64 x.N]] (rfl) (rfl)
theorem api_Num.u_Inc (x : api_Num) (v : Int) : Upd x.enc 0 (#[Value.int .i64 v]) (api_Num.enc { x with Inc := v }) := Upd.cat [] (#[Value.int .i64 x.Inc]) (#[Value.int .i64 v]) [#[Value.int .i64 x.N]] (rfl) (rfl)
theorem api_Num.g_Inc (x : api_Num) : x.enc[0]? = some (Value.int .i64 x.Inc) := (api_Num.s_Inc x).one
theorem api_Num.s_N (x : api_Num) : Sel x.enc 1 1 (#[Value.int .i64 x.N]) := Sel.cat [#[Value.int .i64 x.Inc]] (#[Value.int .i64 x.N]) [] (by simp [szs]) (rfl)
theorem api_Num.u_N (x : api_Num) (v : Int) : Upd x.enc 1 (#[Value.int .i64 v]) (api_Num.enc { x with N := v }) := Upd.cat [#[Value.int .i64 x.Inc]] (#[Value.int .i64 x.N]) (#[Value.int .i64 v]) [] (by simp [szs]) (rfl)
theorem api_Num.g_N (x : api_Num) : x.enc[1]? = some (Value.int .i64 x.N) := (api_Num.s_N x).one
def api_Num.zero : api_Num := ⟨0, 0⟩
theorem api_Num.inj {x y : api_Num} (h : x.enc = y.enc) : x = y := by
  have h0 := Option.some.inj (((api_Num.g_Inc x).symm.trans (by rw [h])).trans (api_Num.g_Inc y))
  simp only [Value.int.injEq, true_and] at h0
  have h1 := Option.some.inj (((api_Num.g_N x).symm.trans (by rw [h])).trans (api_Num.g_N y))
  simp only [Value.int.injEq, true_and] at h1
  cases x; cases y; simp only at h0 h1; subst h0 h1; rfl

structure api_Frame where
  Kind : Int
  P : api_Path
  ToA : Bool
  A : Idn
  B : Idn
  N : Int
  From : api_Num
  To : api_Num
  Trail : Value
  IDs : Value
  Itm : api_Item
  Op : Int
  TTL : Int
  Text : Value
def api_Frame.enc (x : api_Frame) : Array Value := catA [#[Value.int .i64 x.Kind], (x.P).enc, #[Value.bool x.ToA], (x.A).enc, (x.B).enc, #[Value.int .i64 x.N], (x.From).enc, (x.To).enc, #[x.Trail], #[x.IDs], (x.Itm).enc, #[Value.int .i64 x.Op], #[Value.int .i64 x.TTL], #[x.Text]]
theorem api_Frame.size (x : api_Frame) : x.enc.size = 95 := by rw [api_Frame.enc, catA_size]; simp [szs, api_Path.size, Idn.size, api_Num.size, api_Item.size]
theorem api_Frame.one (x : api_Frame) (h0 : x.Trail.oneCell' = true) (h1 : x.IDs.oneCell' = true) (h2 : x.Itm.Val.oneCell' = true) (h3 : x.Text.oneCell' = true) : Ones x.enc := Ones.cat (by
  intro p hp
  simp only [List.mem_cons, List.not_mem_nil, or_false] at hp
  rcases hp with rfl | rfl | rfl | rfl | rfl | rfl | rfl | rfl | rfl | rfl | rfl | rfl | rfl | rfl
  · exact Ones.single rfl
  · exact api_Path.one _
  · exact Ones.single rfl
  · exact Idn.one _
  · exact Idn.one _
  · exact Ones.single rfl
  · exact api_Num.one _
  · exact api_Num.one _
  · exact Ones.single h0
  · exact Ones.single h1
  · exact api_Item.one _ h2
  · exact Ones.single rfl
  · exact Ones.single rfl
  · exact Ones.single h3)
theorem api_Frame.s_Kind (x : api_Frame) : Sel x.enc 0 1 (#[Value.int .i64 x.Kind]) := Sel.cat [] (#[Value.int .i64 x.Kind]) [(x.P).enc, #[Value.bool x.ToA], (x.A).enc, (x.B).enc, #[Value.int .i64 x.N], (x.From).enc, (x.To).enc, #[x.Trail], #[x.IDs], (x.Itm).enc, #[Value.int .i64 x.Op], #[Value.int .i64 x.TTL], #[x.Text]] (rfl) (rfl)
theorem api_Frame.u_Kind (x : api_Frame) (v : Int) : Upd x.enc 0 (#[Value.int .i64 v]) (api_Frame.enc { x with Kind := v }) := Upd.cat [] (#[Value.int .i64 x.Kind]) (#[Value.int .i64 v]) [(x.P).enc, #[Value.bool x.ToA], (x.A).enc, (x.B).enc, #[Value.int .i64 x.N], (x.From).enc, (x.To).enc, #[x.Trail], #[x.IDs], (x.Itm).enc, #[Value.int .i64 x.Op], #[Value.int .i64 x.TTL], #[x.Text]] (rfl) (rfl)
theorem api_Frame.g_Kind (x : api_Frame) : x.enc[0]? = some (Value.int .i64 x.Kind) := (api_Frame.s_Kind x).one
theorem api_Frame.s_P (x : api_Frame) : Sel x.enc 1 17 ((x.P).enc) := Sel.cat [#[Value.int .i64 x.Kind]] ((x.P).enc) [#[Value.bool x.ToA], (x.A).enc, (x.B).enc, #[Value.int .i64 x.N], (x.From).enc, (x.To).enc, #[x.Trail], #[x.IDs], (x.Itm).enc, #[Value.int .i64 x.Op], #[Value.int .i64 x.TTL], #[x.Text]] (by simp [szs]) (api_Path.size _)
theorem api_Frame.u_P (x : api_Frame) (v : api_Path) : Upd x.enc 1 (v.enc) (api_Frame.enc { x with P := v }) := Upd.cat [#[Value.int .i64 x.Kind]] ((x.P).enc) (v.enc) [#[Value.bool x.ToA], (x.A).enc, (x.B).enc, #[Value.int .i64 x.N], (x.From).enc, (x.To).enc, #[x.Trail], #[x.IDs], (x.Itm).enc, #[Value.int .i64 x.Op], #[Value.int .i64 x.TTL], #[x.Text]] (by simp [szs]) (by simp [api_Path.size])
theorem api_Frame.s_ToA (x : api_Frame) : Sel x.enc 18 1 (#[Value.bool x.ToA]) := Sel.cat [#[Value.int .i64 x.Kind], (x.P).enc] (#[Value.bool x.ToA]) [(x.A).enc, (x.B).enc, #[Value.int .i64 x.N], (x.From).enc, (x.To).enc, #[x.Trail], #[x.IDs], (x.Itm).enc, #[Value.int .i64 x.Op], #[Value.int .i64 x.TTL], #[x.Text]] (by simp [szs, api_Path.size]) (rfl)
theorem api_Frame.u_ToA (x : api_Frame) (v : Bool) : Upd x.enc 18 (#[Value.bool v]) (api_Frame.enc { x with ToA := v }) := Upd.cat [#[Value.int .i64 x.Kind], (x.P).enc] (#[Value.bool x.ToA]) (#[Value.bool v]) [(x.A).enc, (x.B).enc, #[Value.int .i64 x.N], (x.From).enc, (x.To).enc, #[x.Trail], #[x.IDs], (x.Itm).enc, #[Value.int .i64 x.Op], #[Value.int .i64 x.TTL], #[x.Text]] (by simp [szs, api_Path.size]) (rfl)
theorem api_Frame.g_ToA (x : api_Frame) : x.enc[18]? = some (Value.bool x.ToA) := (api_Frame.s_ToA x).one
theorem api_Frame.s_A (x : api_Frame) : Sel x.enc 19 16 ((x.A).enc) := Sel.cat [#[Value.int .i64 x.Kind], (x.P).enc, #[Value.bool x.ToA]] ((x.A).enc) [(x.B).enc, #[Value.int .i64 x.N], (x.From).enc, (x.To).enc, #[x.Trail], #[x.IDs], (x.Itm).enc, #[Value.int .i64 x.Op], #[Value.int .i64 x.TTL], #[x.Text]] (by simp [szs, api_Path.size]) (Idn.size _)
theorem api_Frame.u_A (x : api_Frame) (v : Idn) : Upd x.enc 19 (v.enc) (api_Frame.enc { x with A := v }) := Upd.cat [#[Value.int .i64 x.Kind], (x.P).enc, #[Value.bool x.ToA]] ((x.A).enc) (v.enc) [(x.B).enc, #[Value.int .i64 x.N], (x.From).enc, (x.To).enc, #[x.Trail], #[x.IDs], (x.Itm).enc, #[Value.int .i64 x.Op], #[Value.int .i64 x.TTL], #[x.Text]] (by simp [szs, api_Path.size]) (by simp [Idn.size])
theorem api_Frame.s_B (x : api_Frame) : Sel x.enc 35 16 ((x.B).enc) := Sel.cat [#[Value.int .i64 x.Kind], (x.P).enc, #[Value.bool x.ToA], (x.A).enc] ((x.B).enc) [#[Value.int .i64 x.N], (x.From).enc, (x.To).enc, #[x.Trail], #[x.IDs], (x.Itm).enc, #[Value.int .i64 x.Op], #[Value.int .i64 x.TTL], #[x.Text]] (by simp [szs, api_Path.size, Idn.size]) (Idn.size _)
theorem api_Frame.u_B (x : api_Frame) (v : Idn) : Upd x.enc 35 (v.enc) (api_Frame.enc { x with B := v }) := Upd.cat [#[Value.int .i64 x.Kind], (x.P).enc, #[Value.bool x.ToA], (x.A).enc] ((x.B).enc) (v.enc) [#[Value.int .i64 x.N], (x.From).enc, (x.To).enc, #[x.Trail], #[x.IDs], (x.Itm).enc, #[Value.int .i64 x.Op], #[Value.int .i64 x.TTL], #[x.Text]] (by simp [szs, api_Path.size, Idn.size]) (by simp [Idn.size])
theorem api_Frame.s_N (x : api_Frame) : Sel x.enc 51 1 (#[Value.int .i64 x.N]) := Sel.cat [#[Value.int .i64 x.Kind], (x.P).enc, #[Value.bool x.ToA], (x.A).enc, (x.B).enc] (#[Value.int .i64 x.N]) [(x.From).enc, (x.To).enc, #[x.Trail], #[x.IDs], (x.Itm).enc, #[Value.int .i64 x.Op], #[Value.int .i64 x.TTL], #[x.Text]] (by simp [szs, api_Path.size, Idn.size]) (rfl)
theorem api_Frame.u_N (x : api_Frame) (v : Int) : Upd x.enc 51 (#[Value.int .i64 v]) (api_Frame.enc { x with N := v }) := Upd.cat [#[Value.int .i64 x.Kind], (x.P).enc, #[Value.bool x.ToA], (x.A).enc, (x.B).enc] (#[Value.int .i64 x.N]) (#[Value.int .i64 v]) [(x.From).enc, (x.To).enc, #[x.Trail], #[x.IDs], (x.Itm).enc, #[Value.int .i64 x.Op], #[Value.int .i64 x.TTL], #[x.Text]] (by simp [szs, api_Path.size, Idn.size]) (rfl)
theorem api_Frame.g_N (x : api_Frame) : x.enc[51]? = some (Value.int .i64 x.N) := (api_Frame.s_N x).one
theorem api_Frame.s_From (x : api_Frame) : Sel x.enc 52 2 ((x.From).enc) := Sel.cat [#[Value.int .i64 x.Kind], (x.P).enc, #[Value.bool x.ToA], (x.A).enc, (x.B).enc, #[Value.int .i64 x.N]] ((x.From).enc) [(x.To).enc, #[x.Trail], #[x.IDs], (x.Itm).enc, #[Value.int .i64 x.Op], #[Value.int .i64 x.TTL], #[x.Text]] (by simp [szs, api_Path.size, Idn.size]) (api_Num.size _)
theorem api_Frame.u_From (x : api_Frame) (v : api_Num) : Upd x.enc 52 (v.enc) (api_Frame.enc { x with From := v }) := Upd.cat [#[Value.int .i64 x.Kind], (x.P).enc, #[Value.bool x.ToA], (x.A).enc, (x.B).enc, #[Value.int .i64 x.N]] ((x.From).enc) (v.enc) [(x.To).enc, #[x.Trail], #[x.IDs], (x.Itm).enc, #[Value.int .i64 x.Op], #[Value.int .i64 x.TTL], #[x.Text]] (by simp [szs, api_Path.size, Idn.size]) (by simp [api_Num.size])
theorem api_Frame.s_To (x : api_Frame) : Sel x.enc 54 2 ((x.To).enc) := Sel.cat [#[Value.int .i64 x.Kind], (x.P).enc, #[Value.bool x.ToA], (x.A).enc, (x.B).enc, #[Value.int .i64 x.N], (x.From).enc] ((x.To).enc) [#[x.Trail], #[x.IDs], (x.Itm).enc, #[Value.int .i64 x.Op], #[Value.int .i64 x.TTL], #[x.Text]] (by simp [szs, api_Path.size, Idn.size, api_Num.size]) (api_Num.size _)
theorem api_Frame.u_To (x : api_Frame) (v : api_Num) : Upd x.enc 54 (v.enc) (api_Frame.enc { x with To := v }) := Upd.cat [#[Value.int .i64 x.Kind], (x.P).enc, #[Value.bool x.ToA], (x.A).enc, (x.B).enc, #[Value.int .i64 x.N], (x.From).enc] ((x.To).enc) (v.enc) [#[x.Trail], #[x.IDs], (x.Itm).enc, #[Value.int .i64 x.Op], #[Value.int .i64 x.TTL], #[x.Text]] (by simp [szs, api_Path.size, Idn.size, api_Num.size]) (by simp [api_Num.size])
theorem api_Frame.s_Trail (x : api_Frame) : Sel x.enc 56 1 (#[x.Trail]) := Sel.cat [#[Value.int .i64 x.Kind], (x.P).enc, #[Value.bool x.ToA], (x.A).enc, (x.B).enc, #[Value.int .i64 x.N], (x.From).enc, (x.To).enc] (#[x.Trail]) [#[x.IDs], (x.Itm).enc, #[Value.int .i64 x.Op], #[Value.int .i64 x.TTL], #[x.Text]] (by simp [szs, api_Path.size, Idn.size, api_Num.size]) (rfl)
theorem api_Frame.u_Trail (x : api_Frame) (v : Value) : Upd x.enc 56 (#[v]) (api_Frame.enc { x with Trail := v }) := Upd.cat [#[Value.int .i64 x.Kind], (x.P).enc, #[Value.bool x.ToA], (x.A).enc, (x.B).enc, #[Value.int .i64 x.N], (x.From).enc, (x.To).enc] (#[x.Trail]) (#[v]) [#[x.IDs], (x.Itm).enc, #[Value.int .i64 x.Op], #[Value.int .i64 x.TTL], #[x.Text]] (by simp [szs, api_Path.size, Idn.size, api_Num.size]) (rfl)
theorem api_Frame.g_Trail (x : api_Frame) : x.enc[56]? = some (x.Trail) := (api_Frame.s_Trail x).one
theorem api_Frame.s_IDs (x : api_Frame) : Sel x.enc 57 1 (#[x.IDs]) := Sel.cat [#[Value.int .i64 x.Kind], (x.P).enc, #[Value.bool x.ToA], (x.A).enc, (x.B).enc, #[Value.int .i64 x.N], (x.From).enc, (x.To).enc, #[x.Trail]] (#[x.IDs]) [(x.Itm).enc, #[Value.int .i64 x.Op], #[Value.int .i64 x.TTL], #[x.Text]] (by simp [szs, api_Path.size, Idn.size, api_Num.size]) (rfl)
theorem api_Frame.u_IDs (x : api_Frame) (v : Value) : Upd x.enc 57 (#[v]) (api_Frame.enc { x with IDs := v }) := Upd.cat [#[Value.int .i64 x.Kind], (x.P).enc, #[Value.bool x.ToA], (x.A).enc, (x.B).enc, #[Value.int .i64 x.N], (x.From).enc, (x.To).enc, #[x.Trail]] (#[x.IDs]) (#[v]) [(x.Itm).enc, #[Value.int .i64 x.Op], #[Value.int .i64 x.TTL], #[x.Text]] (by simp [szs, api_Path.size, Idn.size, api_Num.size]) (rfl)
theorem api_Frame.g_IDs (x : api_Frame) : x.enc[57]? = some (x.IDs) := (api_Frame.s_IDs x).one
theorem api_Frame.s_Itm (x : api_Frame) : Sel x.enc 58 34 ((x.Itm).enc) := Sel.cat [#[Value.int .i64 x.Kind], (x.P).enc, #[Value.bool x.ToA], (x.A).enc, (x.B).enc, #[Value.int .i64 x.N], (x.From).enc, (x.To).enc, #[x.Trail], #[x.IDs]] ((x.Itm).enc) [#[Value.int .i64 x.Op], #[Value.int .i64 x.TTL], #[x.Text]] (by simp [szs, api_Path.size, Idn.size, api_Num.size]) (api_Item.size _)
theorem api_Frame.u_Itm (x : api_Frame) (v : api_Item) : Upd x.enc 58 (v.enc) (api_Frame.enc { x with Itm := v }) := Upd.cat [#[Value.int .i64 x.Kind], (x.P).enc, #[Value.bool x.ToA], (x.A).enc, (x.B).enc, #[Value.int .i64 x.N], (x.From).enc, (x.To).enc, #[x.Trail], #[x.IDs]] ((x.Itm).enc) (v.enc) [#[Value.int .i64 x.Op], #[Value.int .i64 x.TTL], #[x.Text]] (by simp [szs, api_Path.size, Idn.size, api_Num.size]) (by simp [api_Item.size])
theorem api_Frame.s_Op (x : api_Frame) : Sel x.enc 92 1 (#[Value.int .i64 x.Op]) := Sel.cat [#[Value.int .i64 x.Kind], (x.P).enc, #[Value.bool x.ToA], (x.A).enc, (x.B).enc, #[Value.int .i64 x.N], (x.From).enc, (x.To).enc, #[x.Trail], #[x.IDs], (x.Itm).enc] (#[Value.int .i64 x.Op]) [#[Value.int .i64 x.TTL], #[x.Text]] (by simp [szs, api_Path.size, Idn.size, api_Num.size, api_Item.size]) (rfl)
theorem api_Frame.u_Op (x : api_Frame) (v : Int) : Upd x.enc 92 (#[Value.int .i64 v]) (api_Frame.enc { x with Op := v }) := Upd.cat [#[Value.int .i64 x.Kind], (x.P).enc, #[Value.bool x.ToA], (x.A).enc, (x.B).enc, #[Value.int .i64 x.N], (x.From).enc, (x.To).enc, #[x.Trail], #[x.IDs], (x.Itm).enc] (#[Value.int .i64 x.Op]) (#[Value.int .i64 v]) [#[Value.int .i64 x.TTL], #[x.Text]] (by simp [szs, api_Path.size, Idn.size, api_Num.size, api_Item.size]) (rfl)
theorem api_Frame.g_Op (x : api_Frame) : x.enc[92]? = some (Value.int .i64 x.Op) := (api_Frame.s_Op x).one
theorem api_Frame.s_TTL (x : api_Frame) : Sel x.enc 93 1 (#[Value.int .i64 x.TTL]) := Sel.cat [#[Value.int .i64 x.Kind], (x.P).enc, #[Value.bool x.ToA], (x.A).enc, (x.B).enc, #[Value.int .i64 x.N], (x.From).enc, (x.To).enc, #[x.Trail], #[x.IDs], (x.Itm).enc, #[Value.int .i64 x.Op]] (#[Value.int .i64 x.TTL]) [#[x.Text]] (by simp [szs, api_Path.size, Idn.size, api_Num.size, api_Item.size]) (rfl)
theorem api_Frame.u_TTL (x : api_Frame) (v : Int) : Upd x.enc 93 (#[Value.int .i64 v]) (api_Frame.enc { x with TTL := v }) := Upd.cat [#[Value.int .i64 x.Kind], (x.P).enc, #[Value.bool x.ToA], (x.A).enc, (x.B).enc, #[Value.int .i64 x.N], (x.From).enc, (x.To).enc, #[x.Trail], #[x.IDs], (x.Itm).enc, #[Value.int .i64 x.Op]] (#[Value.int .i64 x.TTL]) (#[Value.int .i64 v]) [#[x.Text]] (by simp [szs, api_Path.size, Idn.size, api_Num.size, api_Item.size]) (rfl)
theorem api_Frame.g_TTL (x : api_Frame) : x.enc[93]? = some (Value.int .i64 x.TTL) := (api_Frame.s_TTL x).one
theorem api_Frame.s_Text (x : api_Frame) : Sel x.enc 94 1 (#[x.Text]) := Sel.cat [#[Value.int .i64 x.Kind], (x.P).enc, #[Value.bool x.ToA], (x.A).enc, (x.B).enc, #[Value.int .i64 x.N], (x.From).enc, (x.To).enc, #[x.Trail], #[x.IDs], (x.Itm).enc, #[Value.int .i64 x.Op], #[Value.int .i64 x.TTL]] (#[x.Text]) [] (by simp [szs, api_Path.size, Idn.size, api_Num.size, api_Item.size]) (rfl)
theorem api_Frame.u_Text (x : api_Frame) (v : Value) : Upd x.enc 94 (#[v]) (api_Frame.enc { x with Text := v }) := Upd.cat [#[Value.int .i64 x.Kind], (x.P).enc, #[Value.bool x.ToA], (x.A).enc, (x.B).enc, #[Value.int .i64 x.N], (x.From).enc, (x.To).enc, #[x.Trail], #[x.IDs], (x.Itm).enc, #[Value.int .i64 x.Op], #[Value.int .i64 x.TTL]] (#[x.Text]) (#[v]) [] (by simp [szs, api_Path.size, Idn.size, api_Num.size, api_Item.size]) (rfl)
theorem api_Frame.g_Text (x : api_Frame) : x.enc[94]? = some (x.Text) := (api_Frame.s_Text x).one
theorem api_Frame.s_P_Who (x : api_Frame) : Sel x.enc 1 16 (x.P.Who.enc) := (api_Frame.s_P x).trans (api_Path.s_Who _)
theorem api_Frame.u_P_Who (x : api_Frame) (v : Idn) : Upd x.enc 1 (v.enc) (api_Frame.enc { x with P := { x.P with Who := v } }) := Upd.trans (o := 1) (o' := 0) (api_Frame.s_P x) (api_Path.u_Who _ v) (by simp [Idn.size]) (api_Frame.u_P x _)
theorem api_Frame.g_P_N (x : api_Frame) : x.enc[17]? = some (Value.int .i64 x.P.N) := (api_Frame.s_P x).get (api_Path.g_N _)
theorem api_Frame.u_P_N (x : api_Frame) (v : Int) : Upd x.enc 17 (#[Value.int .i64 v]) (api_Frame.enc { x with P := { x.P with N := v } }) := Upd.trans (o := 1) (o' := 16) (api_Frame.s_P x) (api_Path.u_N _ v) (by simp) (api_Frame.u_P x _)
theorem api_Frame.g_From_Inc (x : api_Frame) : x.enc[52]? = some (Value.int .i64 x.From.Inc) := (api_Frame.s_From x).get (api_Num.g_Inc _)
theorem api_Frame.u_From_Inc (x : api_Frame) (v : Int) : Upd x.enc 52 (#[Value.int .i64 v]) (api_Frame.enc { x with From := { x.From with Inc := v } }) := Upd.trans (o := 52) (o' := 0) (api_Frame.s_From x) (api_Num.u_Inc _ v) (by simp) (api_Frame.u_From x _)
theorem api_Frame.g_From_N (x : api_Frame) : x.enc[53]? = some (Value.int .i64 x.From.N) := (api_Frame.s_From x).get (api_Num.g_N _)
theorem api_Frame.u_From_N (x : api_Frame) (v : Int) : Upd x.enc 53 (#[Value.int .i64 v]) (api_Frame.enc { x with From := { x.From with N := v } }) := Upd.trans (o := 52) (o' := 1) (api_Frame.s_From x) (api_Num.u_N _ v) (by simp) (api_Frame.u_From x _)
theorem api_Frame.g_To_Inc (x : api_Frame) : x.enc[54]? = some (Value.int .i64 x.To.Inc) := (api_Frame.s_To x).get (api_Num.g_Inc _)
theorem api_Frame.u_To_Inc (x : api_Frame) (v : Int) : Upd x.enc 54 (#[Value.int .i64 v]) (api_Frame.enc { x with To := { x.To with Inc := v } }) := Upd.trans (o := 54) (o' := 0) (api_Frame.s_To x) (api_Num.u_Inc _ v) (by simp) (api_Frame.u_To x _)
theorem api_Frame.g_To_N (x : api_Frame) : x.enc[55]? = some (Value.int .i64 x.To.N) := (api_Frame.s_To x).get (api_Num.g_N _)
theorem api_Frame.u_To_N (x : api_Frame) (v : Int) : Upd x.enc 55 (#[Value.int .i64 v]) (api_Frame.enc { x with To := { x.To with N := v } }) := Upd.trans (o := 54) (o' := 1) (api_Frame.s_To x) (api_Num.u_N _ v) (by simp) (api_Frame.u_To x _)
theorem api_Frame.s_Itm_Key (x : api_Frame) : Sel x.enc 58 16 (x.Itm.Key.enc) := (api_Frame.s_Itm x).trans (api_Item.s_Key _)
theorem api_Frame.u_Itm_Key (x : api_Frame) (v : Idn) : Upd x.enc 58 (v.enc) (api_Frame.enc { x with Itm := { x.Itm with Key := v } }) := Upd.trans (o := 58) (o' := 0) (api_Frame.s_Itm x) (api_Item.u_Key _ v) (by simp [Idn.size]) (api_Frame.u_Itm x _)
theorem api_Frame.s_Itm_Ver (x : api_Frame) : Sel x.enc 74 17 (x.Itm.Ver.enc) := (api_Frame.s_Itm x).trans (api_Item.s_Ver _)
theorem api_Frame.u_Itm_Ver (x : api_Frame) (v : api_Ver) : Upd x.enc 74 (v.enc) (api_Frame.enc { x with Itm := { x.Itm with Ver := v } }) := Upd.trans (o := 58) (o' := 16) (api_Frame.s_Itm x) (api_Item.u_Ver _ v) (by simp [api_Ver.size]) (api_Frame.u_Itm x _)
theorem api_Frame.g_Itm_Ver_N (x : api_Frame) : x.enc[74]? = some (Value.int .i64 x.Itm.Ver.N) := (api_Frame.s_Itm x).get (api_Item.g_Ver_N _)
theorem api_Frame.u_Itm_Ver_N (x : api_Frame) (v : Int) : Upd x.enc 74 (#[Value.int .i64 v]) (api_Frame.enc { x with Itm := { x.Itm with Ver := { x.Itm.Ver with N := v } } }) := Upd.trans (o := 58) (o' := 16) (api_Frame.s_Itm x) (api_Item.u_Ver_N _ v) (by simp) (api_Frame.u_Itm x _)
theorem api_Frame.s_Itm_Ver_Who (x : api_Frame) : Sel x.enc 75 16 (x.Itm.Ver.Who.enc) := (api_Frame.s_Itm x).trans (api_Item.s_Ver_Who _)
theorem api_Frame.u_Itm_Ver_Who (x : api_Frame) (v : Idn) : Upd x.enc 75 (v.enc) (api_Frame.enc { x with Itm := { x.Itm with Ver := { x.Itm.Ver with Who := v } } }) := Upd.trans (o := 58) (o' := 17) (api_Frame.s_Itm x) (api_Item.u_Ver_Who _ v) (by simp [Idn.size]) (api_Frame.u_Itm x _)
theorem api_Frame.g_Itm_Val (x : api_Frame) : x.enc[91]? = some (x.Itm.Val) := (api_Frame.s_Itm x).get (api_Item.g_Val _)
theorem api_Frame.u_Itm_Val (x : api_Frame) (v : Value) : Upd x.enc 91 (#[v]) (api_Frame.enc { x with Itm := { x.Itm with Val := v } }) := Upd.trans (o := 58) (o' := 33) (api_Frame.s_Itm x) (api_Item.u_Val _ v) (by simp) (api_Frame.u_Itm x _)
def api_Frame.zero : api_Frame := ⟨0, api_Path.zero, false, Idn.zero, Idn.zero, 0, api_Num.zero, api_Num.zero, .slice none 0 0, .slice none 0 0, api_Item.zero, 0, 0, .slice none 0 0⟩

structure api_Hop where
  N : Int
  F : api_Frame
def api_Hop.enc (x : api_Hop) : Array Value := catA [#[Value.int .i64 x.N], (x.F).enc]
theorem api_Hop.size (x : api_Hop) : x.enc.size = 96 := by rw [api_Hop.enc, catA_size]; simp [szs, api_Frame.size]
theorem api_Hop.one (x : api_Hop) (h0 : x.F.Trail.oneCell' = true) (h1 : x.F.IDs.oneCell' = true) (h2 : x.F.Itm.Val.oneCell' = true) (h3 : x.F.Text.oneCell' = true) : Ones x.enc := Ones.cat (by
  intro p hp
  simp only [List.mem_cons, List.not_mem_nil, or_false] at hp
  rcases hp with rfl | rfl
  · exact Ones.single rfl
  · exact api_Frame.one _ h0 h1 h2 h3)
theorem api_Hop.s_N (x : api_Hop) : Sel x.enc 0 1 (#[Value.int .i64 x.N]) := Sel.cat [] (#[Value.int .i64 x.N]) [(x.F).enc] (rfl) (rfl)
theorem api_Hop.u_N (x : api_Hop) (v : Int) : Upd x.enc 0 (#[Value.int .i64 v]) (api_Hop.enc { x with N := v }) := Upd.cat [] (#[Value.int .i64 x.N]) (#[Value.int .i64 v]) [(x.F).enc] (rfl) (rfl)
theorem api_Hop.g_N (x : api_Hop) : x.enc[0]? = some (Value.int .i64 x.N) := (api_Hop.s_N x).one
theorem api_Hop.s_F (x : api_Hop) : Sel x.enc 1 95 ((x.F).enc) := Sel.cat [#[Value.int .i64 x.N]] ((x.F).enc) [] (by simp [szs]) (api_Frame.size _)
theorem api_Hop.u_F (x : api_Hop) (v : api_Frame) : Upd x.enc 1 (v.enc) (api_Hop.enc { x with F := v }) := Upd.cat [#[Value.int .i64 x.N]] ((x.F).enc) (v.enc) [] (by simp [szs]) (by simp [api_Frame.size])
theorem api_Hop.g_F_Kind (x : api_Hop) : x.enc[1]? = some (Value.int .i64 x.F.Kind) := (api_Hop.s_F x).get (api_Frame.g_Kind _)
theorem api_Hop.u_F_Kind (x : api_Hop) (v : Int) : Upd x.enc 1 (#[Value.int .i64 v]) (api_Hop.enc { x with F := { x.F with Kind := v } }) := Upd.trans (o := 1) (o' := 0) (api_Hop.s_F x) (api_Frame.u_Kind _ v) (by simp) (api_Hop.u_F x _)
theorem api_Hop.s_F_P (x : api_Hop) : Sel x.enc 2 17 (x.F.P.enc) := (api_Hop.s_F x).trans (api_Frame.s_P _)
theorem api_Hop.u_F_P (x : api_Hop) (v : api_Path) : Upd x.enc 2 (v.enc) (api_Hop.enc { x with F := { x.F with P := v } }) := Upd.trans (o := 1) (o' := 1) (api_Hop.s_F x) (api_Frame.u_P _ v) (by simp [api_Path.size]) (api_Hop.u_F x _)
theorem api_Hop.s_F_P_Who (x : api_Hop) : Sel x.enc 2 16 (x.F.P.Who.enc) := (api_Hop.s_F x).trans (api_Frame.s_P_Who _)
theorem api_Hop.u_F_P_Who (x : api_Hop) (v : Idn) : Upd x.enc 2 (v.enc) (api_Hop.enc { x with F := { x.F with P := { x.F.P with Who := v } } }) := Upd.trans (o := 1) (o' := 1) (api_Hop.s_F x) (api_Frame.u_P_Who _ v) (by simp [Idn.size]) (api_Hop.u_F x _)
theorem api_Hop.g_F_P_N (x : api_Hop) : x.enc[18]? = some (Value.int .i64 x.F.P.N) := (api_Hop.s_F x).get (api_Frame.g_P_N _)
theorem api_Hop.u_F_P_N (x : api_Hop) (v : Int) : Upd x.enc 18 (#[Value.int .i64 v]) (api_Hop.enc { x with F := { x.F with P := { x.F.P with N := v } } }) := Upd.trans (o := 1) (o' := 17) (api_Hop.s_F x) (api_Frame.u_P_N _ v) (by simp) (api_Hop.u_F x _)
theorem api_Hop.g_F_ToA (x : api_Hop) : x.enc[19]? = some (Value.bool x.F.ToA) := (api_Hop.s_F x).get (api_Frame.g_ToA _)
theorem api_Hop.u_F_ToA (x : api_Hop) (v : Bool) : Upd x.enc 19 (#[Value.bool v]) (api_Hop.enc { x with F := { x.F with ToA := v } }) := Upd.trans (o := 1) (o' := 18) (api_Hop.s_F x) (api_Frame.u_ToA _ v) (by simp) (api_Hop.u_F x _)
theorem api_Hop.s_F_A (x : api_Hop) : Sel x.enc 20 16 (x.F.A.enc) := (api_Hop.s_F x).trans (api_Frame.s_A _)
theorem api_Hop.u_F_A (x : api_Hop) (v : Idn) : Upd x.enc 20 (v.enc) (api_Hop.enc { x with F := { x.F with A := v } }) := Upd.trans (o := 1) (o' := 19) (api_Hop.s_F x) (api_Frame.u_A _ v) (by simp [Idn.size]) (api_Hop.u_F x _)
theorem api_Hop.s_F_B (x : api_Hop) : Sel x.enc 36 16 (x.F.B.enc) := (api_Hop.s_F x).trans (api_Frame.s_B _)
theorem api_Hop.u_F_B (x : api_Hop) (v : Idn) : Upd x.enc 36 (v.enc) (api_Hop.enc { x with F := { x.F with B := v } }) := Upd.trans (o := 1) (o' := 35) (api_Hop.s_F x) (api_Frame.u_B _ v) (by simp [Idn.size]) (api_Hop.u_F x _)
theorem api_Hop.g_F_N (x : api_Hop) : x.enc[52]? = some (Value.int .i64 x.F.N) := (api_Hop.s_F x).get (api_Frame.g_N _)
theorem api_Hop.u_F_N (x : api_Hop) (v : Int) : Upd x.enc 52 (#[Value.int .i64 v]) (api_Hop.enc { x with F := { x.F with N := v } }) := Upd.trans (o := 1) (o' := 51) (api_Hop.s_F x) (api_Frame.u_N _ v) (by simp) (api_Hop.u_F x _)
theorem api_Hop.s_F_From (x : api_Hop) : Sel x.enc 53 2 (x.F.From.enc) := (api_Hop.s_F x).trans (api_Frame.s_From _)
theorem api_Hop.u_F_From (x : api_Hop) (v : api_Num) : Upd x.enc 53 (v.enc) (api_Hop.enc { x with F := { x.F with From := v } }) := Upd.trans (o := 1) (o' := 52) (api_Hop.s_F x) (api_Frame.u_From _ v) (by simp [api_Num.size]) (api_Hop.u_F x _)
theorem api_Hop.g_F_From_Inc (x : api_Hop) : x.enc[53]? = some (Value.int .i64 x.F.From.Inc) := (api_Hop.s_F x).get (api_Frame.g_From_Inc _)
theorem api_Hop.u_F_From_Inc (x : api_Hop) (v : Int) : Upd x.enc 53 (#[Value.int .i64 v]) (api_Hop.enc { x with F := { x.F with From := { x.F.From with Inc := v } } }) := Upd.trans (o := 1) (o' := 52) (api_Hop.s_F x) (api_Frame.u_From_Inc _ v) (by simp) (api_Hop.u_F x _)
theorem api_Hop.g_F_From_N (x : api_Hop) : x.enc[54]? = some (Value.int .i64 x.F.From.N) := (api_Hop.s_F x).get (api_Frame.g_From_N _)
theorem api_Hop.u_F_From_N (x : api_Hop) (v : Int) : Upd x.enc 54 (#[Value.int .i64 v]) (api_Hop.enc { x with F := { x.F with From := { x.F.From with N := v } } }) := Upd.trans (o := 1) (o' := 53) (api_Hop.s_F x) (api_Frame.u_From_N _ v) (by simp) (api_Hop.u_F x _)
theorem api_Hop.s_F_To (x : api_Hop) : Sel x.enc 55 2 (x.F.To.enc) := (api_Hop.s_F x).trans (api_Frame.s_To _)
theorem api_Hop.u_F_To (x : api_Hop) (v : api_Num) : Upd x.enc 55 (v.enc) (api_Hop.enc { x with F := { x.F with To := v } }) := Upd.trans (o := 1) (o' := 54) (api_Hop.s_F x) (api_Frame.u_To _ v) (by simp [api_Num.size]) (api_Hop.u_F x _)
theorem api_Hop.g_F_To_Inc (x : api_Hop) : x.enc[55]? = some (Value.int .i64 x.F.To.Inc) := (api_Hop.s_F x).get (api_Frame.g_To_Inc _)
theorem api_Hop.u_F_To_Inc (x : api_Hop) (v : Int) : Upd x.enc 55 (#[Value.int .i64 v]) (api_Hop.enc { x with F := { x.F with To := { x.F.To with Inc := v } } }) := Upd.trans (o := 1) (o' := 54) (api_Hop.s_F x) (api_Frame.u_To_Inc _ v) (by simp) (api_Hop.u_F x _)
theorem api_Hop.g_F_To_N (x : api_Hop) : x.enc[56]? = some (Value.int .i64 x.F.To.N) := (api_Hop.s_F x).get (api_Frame.g_To_N _)
theorem api_Hop.u_F_To_N (x : api_Hop) (v : Int) : Upd x.enc 56 (#[Value.int .i64 v]) (api_Hop.enc { x with F := { x.F with To := { x.F.To with N := v } } }) := Upd.trans (o := 1) (o' := 55) (api_Hop.s_F x) (api_Frame.u_To_N _ v) (by simp) (api_Hop.u_F x _)
theorem api_Hop.g_F_Trail (x : api_Hop) : x.enc[57]? = some (x.F.Trail) := (api_Hop.s_F x).get (api_Frame.g_Trail _)
theorem api_Hop.u_F_Trail (x : api_Hop) (v : Value) : Upd x.enc 57 (#[v]) (api_Hop.enc { x with F := { x.F with Trail := v } }) := Upd.trans (o := 1) (o' := 56) (api_Hop.s_F x) (api_Frame.u_Trail _ v) (by simp) (api_Hop.u_F x _)
theorem api_Hop.g_F_IDs (x : api_Hop) : x.enc[58]? = some (x.F.IDs) := (api_Hop.s_F x).get (api_Frame.g_IDs _)
theorem api_Hop.u_F_IDs (x : api_Hop) (v : Value) : Upd x.enc 58 (#[v]) (api_Hop.enc { x with F := { x.F with IDs := v } }) := Upd.trans (o := 1) (o' := 57) (api_Hop.s_F x) (api_Frame.u_IDs _ v) (by simp) (api_Hop.u_F x _)
theorem api_Hop.s_F_Itm (x : api_Hop) : Sel x.enc 59 34 (x.F.Itm.enc) := (api_Hop.s_F x).trans (api_Frame.s_Itm _)
theorem api_Hop.u_F_Itm (x : api_Hop) (v : api_Item) : Upd x.enc 59 (v.enc) (api_Hop.enc { x with F := { x.F with Itm := v } }) := Upd.trans (o := 1) (o' := 58) (api_Hop.s_F x) (api_Frame.u_Itm _ v) (by simp [api_Item.size]) (api_Hop.u_F x _)
theorem api_Hop.s_F_Itm_Key (x : api_Hop) : Sel x.enc 59 16 (x.F.Itm.Key.enc) := (api_Hop.s_F x).trans (api_Frame.s_Itm_Key _)
theorem api_Hop.u_F_Itm_Key (x : api_Hop) (v : Idn) : Upd x.enc 59 (v.enc) (api_Hop.enc { x with F := { x.F with Itm := { x.F.Itm with Key := v } } }) := Upd.trans (o := 1) (o' := 58) (api_Hop.s_F x) (api_Frame.u_Itm_Key _ v) (by simp [Idn.size]) (api_Hop.u_F x _)
theorem api_Hop.s_F_Itm_Ver (x : api_Hop) : Sel x.enc 75 17 (x.F.Itm.Ver.enc) := (api_Hop.s_F x).trans (api_Frame.s_Itm_Ver _)
theorem api_Hop.u_F_Itm_Ver (x : api_Hop) (v : api_Ver) : Upd x.enc 75 (v.enc) (api_Hop.enc { x with F := { x.F with Itm := { x.F.Itm with Ver := v } } }) := Upd.trans (o := 1) (o' := 74) (api_Hop.s_F x) (api_Frame.u_Itm_Ver _ v) (by simp [api_Ver.size]) (api_Hop.u_F x _)
theorem api_Hop.g_F_Itm_Ver_N (x : api_Hop) : x.enc[75]? = some (Value.int .i64 x.F.Itm.Ver.N) := (api_Hop.s_F x).get (api_Frame.g_Itm_Ver_N _)
theorem api_Hop.u_F_Itm_Ver_N (x : api_Hop) (v : Int) : Upd x.enc 75 (#[Value.int .i64 v]) (api_Hop.enc { x with F := { x.F with Itm := { x.F.Itm with Ver := { x.F.Itm.Ver with N := v } } } }) := Upd.trans (o := 1) (o' := 74) (api_Hop.s_F x) (api_Frame.u_Itm_Ver_N _ v) (by simp) (api_Hop.u_F x _)
theorem api_Hop.s_F_Itm_Ver_Who (x : api_Hop) : Sel x.enc 76 16 (x.F.Itm.Ver.Who.enc) := (api_Hop.s_F x).trans (api_Frame.s_Itm_Ver_Who _)
theorem api_Hop.u_F_Itm_Ver_Who (x : api_Hop) (v : Idn) : Upd x.enc 76 (v.enc) (api_Hop.enc { x with F := { x.F with Itm := { x.F.Itm with Ver := { x.F.Itm.Ver with Who := v } } } }) := Upd.trans (o := 1) (o' := 75) (api_Hop.s_F x) (api_Frame.u_Itm_Ver_Who _ v) (by simp [Idn.size]) (api_Hop.u_F x _)
theorem api_Hop.g_F_Itm_Val (x : api_Hop) : x.enc[92]? = some (x.F.Itm.Val) := (api_Hop.s_F x).get (api_Frame.g_Itm_Val _)
theorem api_Hop.u_F_Itm_Val (x : api_Hop) (v : Value) : Upd x.enc 92 (#[v]) (api_Hop.enc { x with F := { x.F with Itm := { x.F.Itm with Val := v } } }) := Upd.trans (o := 1) (o' := 91) (api_Hop.s_F x) (api_Frame.u_Itm_Val _ v) (by simp) (api_Hop.u_F x _)
theorem api_Hop.g_F_Op (x : api_Hop) : x.enc[93]? = some (Value.int .i64 x.F.Op) := (api_Hop.s_F x).get (api_Frame.g_Op _)
theorem api_Hop.u_F_Op (x : api_Hop) (v : Int) : Upd x.enc 93 (#[Value.int .i64 v]) (api_Hop.enc { x with F := { x.F with Op := v } }) := Upd.trans (o := 1) (o' := 92) (api_Hop.s_F x) (api_Frame.u_Op _ v) (by simp) (api_Hop.u_F x _)
theorem api_Hop.g_F_TTL (x : api_Hop) : x.enc[94]? = some (Value.int .i64 x.F.TTL) := (api_Hop.s_F x).get (api_Frame.g_TTL _)
theorem api_Hop.u_F_TTL (x : api_Hop) (v : Int) : Upd x.enc 94 (#[Value.int .i64 v]) (api_Hop.enc { x with F := { x.F with TTL := v } }) := Upd.trans (o := 1) (o' := 93) (api_Hop.s_F x) (api_Frame.u_TTL _ v) (by simp) (api_Hop.u_F x _)
theorem api_Hop.g_F_Text (x : api_Hop) : x.enc[95]? = some (x.F.Text) := (api_Hop.s_F x).get (api_Frame.g_Text _)
theorem api_Hop.u_F_Text (x : api_Hop) (v : Value) : Upd x.enc 95 (#[v]) (api_Hop.enc { x with F := { x.F with Text := v } }) := Upd.trans (o := 1) (o' := 94) (api_Hop.s_F x) (api_Frame.u_Text _ v) (by simp) (api_Hop.u_F x _)
def api_Hop.zero : api_Hop := ⟨0, api_Frame.zero⟩

structure annuletref15_Torn where
  Out : Value
  Lost : Value
def annuletref15_Torn.enc (x : annuletref15_Torn) : Array Value := catA [#[x.Out], #[x.Lost]]
theorem annuletref15_Torn.size (x : annuletref15_Torn) : x.enc.size = 2 := by rw [annuletref15_Torn.enc, catA_size]; simp [szs]
theorem annuletref15_Torn.one (x : annuletref15_Torn) (h0 : x.Out.oneCell' = true) (h1 : x.Lost.oneCell' = true) : Ones x.enc := Ones.cat (by
  intro p hp
  simp only [List.mem_cons, List.not_mem_nil, or_false] at hp
  rcases hp with rfl | rfl
  · exact Ones.single h0
  · exact Ones.single h1)
theorem annuletref15_Torn.s_Out (x : annuletref15_Torn) : Sel x.enc 0 1 (#[x.Out]) := Sel.cat [] (#[x.Out]) [#[x.Lost]] (rfl) (rfl)
theorem annuletref15_Torn.u_Out (x : annuletref15_Torn) (v : Value) : Upd x.enc 0 (#[v]) (annuletref15_Torn.enc { x with Out := v }) := Upd.cat [] (#[x.Out]) (#[v]) [#[x.Lost]] (rfl) (rfl)
theorem annuletref15_Torn.g_Out (x : annuletref15_Torn) : x.enc[0]? = some (x.Out) := (annuletref15_Torn.s_Out x).one
theorem annuletref15_Torn.s_Lost (x : annuletref15_Torn) : Sel x.enc 1 1 (#[x.Lost]) := Sel.cat [#[x.Out]] (#[x.Lost]) [] (by simp [szs]) (rfl)
theorem annuletref15_Torn.u_Lost (x : annuletref15_Torn) (v : Value) : Upd x.enc 1 (#[v]) (annuletref15_Torn.enc { x with Lost := v }) := Upd.cat [#[x.Out]] (#[x.Lost]) (#[v]) [] (by simp [szs]) (rfl)
theorem annuletref15_Torn.g_Lost (x : annuletref15_Torn) : x.enc[1]? = some (x.Lost) := (annuletref15_Torn.s_Lost x).one
def annuletref15_Torn.zero : annuletref15_Torn := ⟨.slice none 0 0, .slice none 0 0⟩

structure frame_Drop where
  P : api_Path
deriving DecidableEq
def frame_Drop.enc (x : frame_Drop) : Array Value := catA [(x.P).enc]
theorem frame_Drop.size (x : frame_Drop) : x.enc.size = 17 := by rw [frame_Drop.enc, catA_size]; simp [szs, api_Path.size]
theorem frame_Drop.one (x : frame_Drop) : Ones x.enc := Ones.cat (by
  intro p hp
  simp only [List.mem_cons, List.not_mem_nil, or_false] at hp
  rcases hp with rfl
  · exact api_Path.one _)
theorem frame_Drop.pl (x : frame_Drop) : Pl x.enc := Pl.cat (by
  intro p hp
  simp only [List.mem_cons, List.not_mem_nil, or_false] at hp
  rcases hp with rfl
  · exact api_Path.pl _)
theorem frame_Drop.s_P (x : frame_Drop) : Sel x.enc 0 17 ((x.P).enc) := Sel.cat [] ((x.P).enc) [] (rfl) (api_Path.size _)
theorem frame_Drop.u_P (x : frame_Drop) (v : api_Path) : Upd x.enc 0 (v.enc) (frame_Drop.enc { x with P := v }) := Upd.cat [] ((x.P).enc) (v.enc) [] (rfl) (by simp [api_Path.size])
theorem frame_Drop.s_P_Who (x : frame_Drop) : Sel x.enc 0 16 (x.P.Who.enc) := (frame_Drop.s_P x).trans (api_Path.s_Who _)
theorem frame_Drop.u_P_Who (x : frame_Drop) (v : Idn) : Upd x.enc 0 (v.enc) (frame_Drop.enc { x with P := { x.P with Who := v } }) := Upd.trans (o := 0) (o' := 0) (frame_Drop.s_P x) (api_Path.u_Who _ v) (by simp [Idn.size]) (frame_Drop.u_P x _)
theorem frame_Drop.g_P_N (x : frame_Drop) : x.enc[16]? = some (Value.int .i64 x.P.N) := (frame_Drop.s_P x).get (api_Path.g_N _)
theorem frame_Drop.u_P_N (x : frame_Drop) (v : Int) : Upd x.enc 16 (#[Value.int .i64 v]) (frame_Drop.enc { x with P := { x.P with N := v } }) := Upd.trans (o := 0) (o' := 16) (frame_Drop.s_P x) (api_Path.u_N _ v) (by simp) (frame_Drop.u_P x _)
def frame_Drop.zero : frame_Drop := ⟨api_Path.zero⟩
theorem frame_Drop.inj {x y : frame_Drop} (h : x.enc = y.enc) : x = y := by
  have h0 := api_Path.inj (((frame_Drop.s_P x).2.symm.trans (by rw [h])).trans (frame_Drop.s_P y).2)
  cases x; cases y; simp only at h0; subst h0; rfl

structure frame_Hello where
  Mine : api_Num
  Seen : api_Num
  ID : Idn
deriving DecidableEq
def frame_Hello.enc (x : frame_Hello) : Array Value := catA [(x.Mine).enc, (x.Seen).enc, (x.ID).enc]
theorem frame_Hello.size (x : frame_Hello) : x.enc.size = 20 := by rw [frame_Hello.enc, catA_size]; simp [szs, api_Num.size, Idn.size]
theorem frame_Hello.one (x : frame_Hello) : Ones x.enc := Ones.cat (by
  intro p hp
  simp only [List.mem_cons, List.not_mem_nil, or_false] at hp
  rcases hp with rfl | rfl | rfl
  · exact api_Num.one _
  · exact api_Num.one _
  · exact Idn.one _)
theorem frame_Hello.pl (x : frame_Hello) : Pl x.enc := Pl.cat (by
  intro p hp
  simp only [List.mem_cons, List.not_mem_nil, or_false] at hp
  rcases hp with rfl | rfl | rfl
  · exact api_Num.pl _
  · exact api_Num.pl _
  · exact Idn.pl _)
theorem frame_Hello.s_Mine (x : frame_Hello) : Sel x.enc 0 2 ((x.Mine).enc) := Sel.cat [] ((x.Mine).enc) [(x.Seen).enc, (x.ID).enc] (rfl) (api_Num.size _)
theorem frame_Hello.u_Mine (x : frame_Hello) (v : api_Num) : Upd x.enc 0 (v.enc) (frame_Hello.enc { x with Mine := v }) := Upd.cat [] ((x.Mine).enc) (v.enc) [(x.Seen).enc, (x.ID).enc] (rfl) (by simp [api_Num.size])
theorem frame_Hello.s_Seen (x : frame_Hello) : Sel x.enc 2 2 ((x.Seen).enc) := Sel.cat [(x.Mine).enc] ((x.Seen).enc) [(x.ID).enc] (by simp [szs, api_Num.size]) (api_Num.size _)
theorem frame_Hello.u_Seen (x : frame_Hello) (v : api_Num) : Upd x.enc 2 (v.enc) (frame_Hello.enc { x with Seen := v }) := Upd.cat [(x.Mine).enc] ((x.Seen).enc) (v.enc) [(x.ID).enc] (by simp [szs, api_Num.size]) (by simp [api_Num.size])
theorem frame_Hello.s_ID (x : frame_Hello) : Sel x.enc 4 16 ((x.ID).enc) := Sel.cat [(x.Mine).enc, (x.Seen).enc] ((x.ID).enc) [] (by simp [szs, api_Num.size]) (Idn.size _)
theorem frame_Hello.u_ID (x : frame_Hello) (v : Idn) : Upd x.enc 4 (v.enc) (frame_Hello.enc { x with ID := v }) := Upd.cat [(x.Mine).enc, (x.Seen).enc] ((x.ID).enc) (v.enc) [] (by simp [szs, api_Num.size]) (by simp [Idn.size])
theorem frame_Hello.g_Mine_Inc (x : frame_Hello) : x.enc[0]? = some (Value.int .i64 x.Mine.Inc) := (frame_Hello.s_Mine x).get (api_Num.g_Inc _)
theorem frame_Hello.u_Mine_Inc (x : frame_Hello) (v : Int) : Upd x.enc 0 (#[Value.int .i64 v]) (frame_Hello.enc { x with Mine := { x.Mine with Inc := v } }) := Upd.trans (o := 0) (o' := 0) (frame_Hello.s_Mine x) (api_Num.u_Inc _ v) (by simp) (frame_Hello.u_Mine x _)
theorem frame_Hello.g_Mine_N (x : frame_Hello) : x.enc[1]? = some (Value.int .i64 x.Mine.N) := (frame_Hello.s_Mine x).get (api_Num.g_N _)
theorem frame_Hello.u_Mine_N (x : frame_Hello) (v : Int) : Upd x.enc 1 (#[Value.int .i64 v]) (frame_Hello.enc { x with Mine := { x.Mine with N := v } }) := Upd.trans (o := 0) (o' := 1) (frame_Hello.s_Mine x) (api_Num.u_N _ v) (by simp) (frame_Hello.u_Mine x _)
theorem frame_Hello.g_Seen_Inc (x : frame_Hello) : x.enc[2]? = some (Value.int .i64 x.Seen.Inc) := (frame_Hello.s_Seen x).get (api_Num.g_Inc _)
theorem frame_Hello.u_Seen_Inc (x : frame_Hello) (v : Int) : Upd x.enc 2 (#[Value.int .i64 v]) (frame_Hello.enc { x with Seen := { x.Seen with Inc := v } }) := Upd.trans (o := 2) (o' := 0) (frame_Hello.s_Seen x) (api_Num.u_Inc _ v) (by simp) (frame_Hello.u_Seen x _)
theorem frame_Hello.g_Seen_N (x : frame_Hello) : x.enc[3]? = some (Value.int .i64 x.Seen.N) := (frame_Hello.s_Seen x).get (api_Num.g_N _)
theorem frame_Hello.u_Seen_N (x : frame_Hello) (v : Int) : Upd x.enc 3 (#[Value.int .i64 v]) (frame_Hello.enc { x with Seen := { x.Seen with N := v } }) := Upd.trans (o := 2) (o' := 1) (frame_Hello.s_Seen x) (api_Num.u_N _ v) (by simp) (frame_Hello.u_Seen x _)
def frame_Hello.zero : frame_Hello := ⟨api_Num.zero, api_Num.zero, Idn.zero⟩
theorem frame_Hello.inj {x y : frame_Hello} (h : x.enc = y.enc) : x = y := by
  have h0 := api_Num.inj (((frame_Hello.s_Mine x).2.symm.trans (by rw [h])).trans (frame_Hello.s_Mine y).2)
  have h1 := api_Num.inj (((frame_Hello.s_Seen x).2.symm.trans (by rw [h])).trans (frame_Hello.s_Seen y).2)
  have h2 := Idn.enc_inj (((frame_Hello.s_ID x).2.symm.trans (by rw [h])).trans (frame_Hello.s_ID y).2)
  cases x; cases y; simp only at h0 h1 h2; subst h0 h1 h2; rfl

structure frame_Data where
  From : api_Num
  To : api_Num
  N : Int
  Text : Value
def frame_Data.enc (x : frame_Data) : Array Value := catA [(x.From).enc, (x.To).enc, #[Value.int .i64 x.N], #[x.Text]]
theorem frame_Data.size (x : frame_Data) : x.enc.size = 6 := by rw [frame_Data.enc, catA_size]; simp [szs, api_Num.size]
theorem frame_Data.one (x : frame_Data) (h0 : x.Text.oneCell' = true) : Ones x.enc := Ones.cat (by
  intro p hp
  simp only [List.mem_cons, List.not_mem_nil, or_false] at hp
  rcases hp with rfl | rfl | rfl | rfl
  · exact api_Num.one _
  · exact api_Num.one _
  · exact Ones.single rfl
  · exact Ones.single h0)
theorem frame_Data.s_From (x : frame_Data) : Sel x.enc 0 2 ((x.From).enc) := Sel.cat [] ((x.From).enc) [(x.To).enc, #[Value.int .i64 x.N], #[x.Text]] (rfl) (api_Num.size _)
theorem frame_Data.u_From (x : frame_Data) (v : api_Num) : Upd x.enc 0 (v.enc) (frame_Data.enc { x with From := v }) := Upd.cat [] ((x.From).enc) (v.enc) [(x.To).enc, #[Value.int .i64 x.N], #[x.Text]] (rfl) (by simp [api_Num.size])
theorem frame_Data.s_To (x : frame_Data) : Sel x.enc 2 2 ((x.To).enc) := Sel.cat [(x.From).enc] ((x.To).enc) [#[Value.int .i64 x.N], #[x.Text]] (by simp [szs, api_Num.size]) (api_Num.size _)
theorem frame_Data.u_To (x : frame_Data) (v : api_Num) : Upd x.enc 2 (v.enc) (frame_Data.enc { x with To := v }) := Upd.cat [(x.From).enc] ((x.To).enc) (v.enc) [#[Value.int .i64 x.N], #[x.Text]] (by simp [szs, api_Num.size]) (by simp [api_Num.size])
theorem frame_Data.s_N (x : frame_Data) : Sel x.enc 4 1 (#[Value.int .i64 x.N]) := Sel.cat [(x.From).enc, (x.To).enc] (#[Value.int .i64 x.N]) [#[x.Text]] (by simp [szs, api_Num.size]) (rfl)
theorem frame_Data.u_N (x : frame_Data) (v : Int) : Upd x.enc 4 (#[Value.int .i64 v]) (frame_Data.enc { x with N := v }) := Upd.cat [(x.From).enc, (x.To).enc] (#[Value.int .i64 x.N]) (#[Value.int .i64 v]) [#[x.Text]] (by simp [szs, api_Num.size]) (rfl)
theorem frame_Data.g_N (x : frame_Data) : x.enc[4]? = some (Value.int .i64 x.N) := (frame_Data.s_N x).one
theorem frame_Data.s_Text (x : frame_Data) : Sel x.enc 5 1 (#[x.Text]) := Sel.cat [(x.From).enc, (x.To).enc, #[Value.int .i64 x.N]] (#[x.Text]) [] (by simp [szs, api_Num.size]) (rfl)
theorem frame_Data.u_Text (x : frame_Data) (v : Value) : Upd x.enc 5 (#[v]) (frame_Data.enc { x with Text := v }) := Upd.cat [(x.From).enc, (x.To).enc, #[Value.int .i64 x.N]] (#[x.Text]) (#[v]) [] (by simp [szs, api_Num.size]) (rfl)
theorem frame_Data.g_Text (x : frame_Data) : x.enc[5]? = some (x.Text) := (frame_Data.s_Text x).one
theorem frame_Data.g_From_Inc (x : frame_Data) : x.enc[0]? = some (Value.int .i64 x.From.Inc) := (frame_Data.s_From x).get (api_Num.g_Inc _)
theorem frame_Data.u_From_Inc (x : frame_Data) (v : Int) : Upd x.enc 0 (#[Value.int .i64 v]) (frame_Data.enc { x with From := { x.From with Inc := v } }) := Upd.trans (o := 0) (o' := 0) (frame_Data.s_From x) (api_Num.u_Inc _ v) (by simp) (frame_Data.u_From x _)
theorem frame_Data.g_From_N (x : frame_Data) : x.enc[1]? = some (Value.int .i64 x.From.N) := (frame_Data.s_From x).get (api_Num.g_N _)
theorem frame_Data.u_From_N (x : frame_Data) (v : Int) : Upd x.enc 1 (#[Value.int .i64 v]) (frame_Data.enc { x with From := { x.From with N := v } }) := Upd.trans (o := 0) (o' := 1) (frame_Data.s_From x) (api_Num.u_N _ v) (by simp) (frame_Data.u_From x _)
theorem frame_Data.g_To_Inc (x : frame_Data) : x.enc[2]? = some (Value.int .i64 x.To.Inc) := (frame_Data.s_To x).get (api_Num.g_Inc _)
theorem frame_Data.u_To_Inc (x : frame_Data) (v : Int) : Upd x.enc 2 (#[Value.int .i64 v]) (frame_Data.enc { x with To := { x.To with Inc := v } }) := Upd.trans (o := 2) (o' := 0) (frame_Data.s_To x) (api_Num.u_Inc _ v) (by simp) (frame_Data.u_To x _)
theorem frame_Data.g_To_N (x : frame_Data) : x.enc[3]? = some (Value.int .i64 x.To.N) := (frame_Data.s_To x).get (api_Num.g_N _)
theorem frame_Data.u_To_N (x : frame_Data) (v : Int) : Upd x.enc 3 (#[Value.int .i64 v]) (frame_Data.enc { x with To := { x.To with N := v } }) := Upd.trans (o := 2) (o' := 1) (frame_Data.s_To x) (api_Num.u_N _ v) (by simp) (frame_Data.u_To x _)
def frame_Data.zero : frame_Data := ⟨api_Num.zero, api_Num.zero, 0, .slice none 0 0⟩

structure frame_Ack where
  From : api_Num
  To : api_Num
  N : Int
deriving DecidableEq
def frame_Ack.enc (x : frame_Ack) : Array Value := catA [(x.From).enc, (x.To).enc, #[Value.int .i64 x.N]]
theorem frame_Ack.size (x : frame_Ack) : x.enc.size = 5 := by rw [frame_Ack.enc, catA_size]; simp [szs, api_Num.size]
theorem frame_Ack.one (x : frame_Ack) : Ones x.enc := Ones.cat (by
  intro p hp
  simp only [List.mem_cons, List.not_mem_nil, or_false] at hp
  rcases hp with rfl | rfl | rfl
  · exact api_Num.one _
  · exact api_Num.one _
  · exact Ones.single rfl)
theorem frame_Ack.pl (x : frame_Ack) : Pl x.enc := Pl.cat (by
  intro p hp
  simp only [List.mem_cons, List.not_mem_nil, or_false] at hp
  rcases hp with rfl | rfl | rfl
  · exact api_Num.pl _
  · exact api_Num.pl _
  · exact Pl.single rfl)
theorem frame_Ack.s_From (x : frame_Ack) : Sel x.enc 0 2 ((x.From).enc) := Sel.cat [] ((x.From).enc) [(x.To).enc, #[Value.int .i64 x.N]] (rfl) (api_Num.size _)
theorem frame_Ack.u_From (x : frame_Ack) (v : api_Num) : Upd x.enc 0 (v.enc) (frame_Ack.enc { x with From := v }) := Upd.cat [] ((x.From).enc) (v.enc) [(x.To).enc, #[Value.int .i64 x.N]] (rfl) (by simp [api_Num.size])
theorem frame_Ack.s_To (x : frame_Ack) : Sel x.enc 2 2 ((x.To).enc) := Sel.cat [(x.From).enc] ((x.To).enc) [#[Value.int .i64 x.N]] (by simp [szs, api_Num.size]) (api_Num.size _)
theorem frame_Ack.u_To (x : frame_Ack) (v : api_Num) : Upd x.enc 2 (v.enc) (frame_Ack.enc { x with To := v }) := Upd.cat [(x.From).enc] ((x.To).enc) (v.enc) [#[Value.int .i64 x.N]] (by simp [szs, api_Num.size]) (by simp [api_Num.size])
theorem frame_Ack.s_N (x : frame_Ack) : Sel x.enc 4 1 (#[Value.int .i64 x.N]) := Sel.cat [(x.From).enc, (x.To).enc] (#[Value.int .i64 x.N]) [] (by simp [szs, api_Num.size]) (rfl)
theorem frame_Ack.u_N (x : frame_Ack) (v : Int) : Upd x.enc 4 (#[Value.int .i64 v]) (frame_Ack.enc { x with N := v }) := Upd.cat [(x.From).enc, (x.To).enc] (#[Value.int .i64 x.N]) (#[Value.int .i64 v]) [] (by simp [szs, api_Num.size]) (rfl)
theorem frame_Ack.g_N (x : frame_Ack) : x.enc[4]? = some (Value.int .i64 x.N) := (frame_Ack.s_N x).one
theorem frame_Ack.g_From_Inc (x : frame_Ack) : x.enc[0]? = some (Value.int .i64 x.From.Inc) := (frame_Ack.s_From x).get (api_Num.g_Inc _)
theorem frame_Ack.u_From_Inc (x : frame_Ack) (v : Int) : Upd x.enc 0 (#[Value.int .i64 v]) (frame_Ack.enc { x with From := { x.From with Inc := v } }) := Upd.trans (o := 0) (o' := 0) (frame_Ack.s_From x) (api_Num.u_Inc _ v) (by simp) (frame_Ack.u_From x _)
theorem frame_Ack.g_From_N (x : frame_Ack) : x.enc[1]? = some (Value.int .i64 x.From.N) := (frame_Ack.s_From x).get (api_Num.g_N _)
theorem frame_Ack.u_From_N (x : frame_Ack) (v : Int) : Upd x.enc 1 (#[Value.int .i64 v]) (frame_Ack.enc { x with From := { x.From with N := v } }) := Upd.trans (o := 0) (o' := 1) (frame_Ack.s_From x) (api_Num.u_N _ v) (by simp) (frame_Ack.u_From x _)
theorem frame_Ack.g_To_Inc (x : frame_Ack) : x.enc[2]? = some (Value.int .i64 x.To.Inc) := (frame_Ack.s_To x).get (api_Num.g_Inc _)
theorem frame_Ack.u_To_Inc (x : frame_Ack) (v : Int) : Upd x.enc 2 (#[Value.int .i64 v]) (frame_Ack.enc { x with To := { x.To with Inc := v } }) := Upd.trans (o := 2) (o' := 0) (frame_Ack.s_To x) (api_Num.u_Inc _ v) (by simp) (frame_Ack.u_To x _)
theorem frame_Ack.g_To_N (x : frame_Ack) : x.enc[3]? = some (Value.int .i64 x.To.N) := (frame_Ack.s_To x).get (api_Num.g_N _)
theorem frame_Ack.u_To_N (x : frame_Ack) (v : Int) : Upd x.enc 3 (#[Value.int .i64 v]) (frame_Ack.enc { x with To := { x.To with N := v } }) := Upd.trans (o := 2) (o' := 1) (frame_Ack.s_To x) (api_Num.u_N _ v) (by simp) (frame_Ack.u_To x _)
def frame_Ack.zero : frame_Ack := ⟨api_Num.zero, api_Num.zero, 0⟩
theorem frame_Ack.inj {x y : frame_Ack} (h : x.enc = y.enc) : x = y := by
  have h0 := api_Num.inj (((frame_Ack.s_From x).2.symm.trans (by rw [h])).trans (frame_Ack.s_From y).2)
  have h1 := api_Num.inj (((frame_Ack.s_To x).2.symm.trans (by rw [h])).trans (frame_Ack.s_To y).2)
  have h2 := Option.some.inj (((frame_Ack.g_N x).symm.trans (by rw [h])).trans (frame_Ack.g_N y))
  simp only [Value.int.injEq, true_and] at h2
  cases x; cases y; simp only at h0 h1 h2; subst h0 h1 h2; rfl

structure frame_Setup where
  P : api_Path
  A : Idn
  B : Idn
  Trail : Value
def frame_Setup.enc (x : frame_Setup) : Array Value := catA [(x.P).enc, (x.A).enc, (x.B).enc, #[x.Trail]]
theorem frame_Setup.size (x : frame_Setup) : x.enc.size = 50 := by rw [frame_Setup.enc, catA_size]; simp [szs, api_Path.size, Idn.size]
theorem frame_Setup.one (x : frame_Setup) (h0 : x.Trail.oneCell' = true) : Ones x.enc := Ones.cat (by
  intro p hp
  simp only [List.mem_cons, List.not_mem_nil, or_false] at hp
  rcases hp with rfl | rfl | rfl | rfl
  · exact api_Path.one _
  · exact Idn.one _
  · exact Idn.one _
  · exact Ones.single h0)
theorem frame_Setup.s_P (x : frame_Setup) : Sel x.enc 0 17 ((x.P).enc) := Sel.cat [] ((x.P).enc) [(x.A).enc, (x.B).enc, #[x.Trail]] (rfl) (api_Path.size _)
theorem frame_Setup.u_P (x : frame_Setup) (v : api_Path) : Upd x.enc 0 (v.enc) (frame_Setup.enc { x with P := v }) := Upd.cat [] ((x.P).enc) (v.enc) [(x.A).enc, (x.B).enc, #[x.Trail]] (rfl) (by simp [api_Path.size])
theorem frame_Setup.s_A (x : frame_Setup) : Sel x.enc 17 16 ((x.A).enc) := Sel.cat [(x.P).enc] ((x.A).enc) [(x.B).enc, #[x.Trail]] (by simp [szs, api_Path.size]) (Idn.size _)
theorem frame_Setup.u_A (x : frame_Setup) (v : Idn) : Upd x.enc 17 (v.enc) (frame_Setup.enc { x with A := v }) := Upd.cat [(x.P).enc] ((x.A).enc) (v.enc) [(x.B).enc, #[x.Trail]] (by simp [szs, api_Path.size]) (by simp [Idn.size])
theorem frame_Setup.s_B (x : frame_Setup) : Sel x.enc 33 16 ((x.B).enc) := Sel.cat [(x.P).enc, (x.A).enc] ((x.B).enc) [#[x.Trail]] (by simp [szs, api_Path.size, Idn.size]) (Idn.size _)
theorem frame_Setup.u_B (x : frame_Setup) (v : Idn) : Upd x.enc 33 (v.enc) (frame_Setup.enc { x with B := v }) := Upd.cat [(x.P).enc, (x.A).enc] ((x.B).enc) (v.enc) [#[x.Trail]] (by simp [szs, api_Path.size, Idn.size]) (by simp [Idn.size])
theorem frame_Setup.s_Trail (x : frame_Setup) : Sel x.enc 49 1 (#[x.Trail]) := Sel.cat [(x.P).enc, (x.A).enc, (x.B).enc] (#[x.Trail]) [] (by simp [szs, api_Path.size, Idn.size]) (rfl)
theorem frame_Setup.u_Trail (x : frame_Setup) (v : Value) : Upd x.enc 49 (#[v]) (frame_Setup.enc { x with Trail := v }) := Upd.cat [(x.P).enc, (x.A).enc, (x.B).enc] (#[x.Trail]) (#[v]) [] (by simp [szs, api_Path.size, Idn.size]) (rfl)
theorem frame_Setup.g_Trail (x : frame_Setup) : x.enc[49]? = some (x.Trail) := (frame_Setup.s_Trail x).one
theorem frame_Setup.s_P_Who (x : frame_Setup) : Sel x.enc 0 16 (x.P.Who.enc) := (frame_Setup.s_P x).trans (api_Path.s_Who _)
theorem frame_Setup.u_P_Who (x : frame_Setup) (v : Idn) : Upd x.enc 0 (v.enc) (frame_Setup.enc { x with P := { x.P with Who := v } }) := Upd.trans (o := 0) (o' := 0) (frame_Setup.s_P x) (api_Path.u_Who _ v) (by simp [Idn.size]) (frame_Setup.u_P x _)
theorem frame_Setup.g_P_N (x : frame_Setup) : x.enc[16]? = some (Value.int .i64 x.P.N) := (frame_Setup.s_P x).get (api_Path.g_N _)
theorem frame_Setup.u_P_N (x : frame_Setup) (v : Int) : Upd x.enc 16 (#[Value.int .i64 v]) (frame_Setup.enc { x with P := { x.P with N := v } }) := Upd.trans (o := 0) (o' := 16) (frame_Setup.s_P x) (api_Path.u_N _ v) (by simp) (frame_Setup.u_P x _)
def frame_Setup.zero : frame_Setup := ⟨api_Path.zero, Idn.zero, Idn.zero, .slice none 0 0⟩

structure frame_Part where
  P : api_Path
  ToA : Bool
deriving DecidableEq
def frame_Part.enc (x : frame_Part) : Array Value := catA [(x.P).enc, #[Value.bool x.ToA]]
theorem frame_Part.size (x : frame_Part) : x.enc.size = 18 := by rw [frame_Part.enc, catA_size]; simp [szs, api_Path.size]
theorem frame_Part.one (x : frame_Part) : Ones x.enc := Ones.cat (by
  intro p hp
  simp only [List.mem_cons, List.not_mem_nil, or_false] at hp
  rcases hp with rfl | rfl
  · exact api_Path.one _
  · exact Ones.single rfl)
theorem frame_Part.pl (x : frame_Part) : Pl x.enc := Pl.cat (by
  intro p hp
  simp only [List.mem_cons, List.not_mem_nil, or_false] at hp
  rcases hp with rfl | rfl
  · exact api_Path.pl _
  · exact Pl.single rfl)
theorem frame_Part.s_P (x : frame_Part) : Sel x.enc 0 17 ((x.P).enc) := Sel.cat [] ((x.P).enc) [#[Value.bool x.ToA]] (rfl) (api_Path.size _)
theorem frame_Part.u_P (x : frame_Part) (v : api_Path) : Upd x.enc 0 (v.enc) (frame_Part.enc { x with P := v }) := Upd.cat [] ((x.P).enc) (v.enc) [#[Value.bool x.ToA]] (rfl) (by simp [api_Path.size])
theorem frame_Part.s_ToA (x : frame_Part) : Sel x.enc 17 1 (#[Value.bool x.ToA]) := Sel.cat [(x.P).enc] (#[Value.bool x.ToA]) [] (by simp [szs, api_Path.size]) (rfl)
theorem frame_Part.u_ToA (x : frame_Part) (v : Bool) : Upd x.enc 17 (#[Value.bool v]) (frame_Part.enc { x with ToA := v }) := Upd.cat [(x.P).enc] (#[Value.bool x.ToA]) (#[Value.bool v]) [] (by simp [szs, api_Path.size]) (rfl)
theorem frame_Part.g_ToA (x : frame_Part) : x.enc[17]? = some (Value.bool x.ToA) := (frame_Part.s_ToA x).one
theorem frame_Part.s_P_Who (x : frame_Part) : Sel x.enc 0 16 (x.P.Who.enc) := (frame_Part.s_P x).trans (api_Path.s_Who _)
theorem frame_Part.u_P_Who (x : frame_Part) (v : Idn) : Upd x.enc 0 (v.enc) (frame_Part.enc { x with P := { x.P with Who := v } }) := Upd.trans (o := 0) (o' := 0) (frame_Part.s_P x) (api_Path.u_Who _ v) (by simp [Idn.size]) (frame_Part.u_P x _)
theorem frame_Part.g_P_N (x : frame_Part) : x.enc[16]? = some (Value.int .i64 x.P.N) := (frame_Part.s_P x).get (api_Path.g_N _)
theorem frame_Part.u_P_N (x : frame_Part) (v : Int) : Upd x.enc 16 (#[Value.int .i64 v]) (frame_Part.enc { x with P := { x.P with N := v } }) := Upd.trans (o := 0) (o' := 16) (frame_Part.s_P x) (api_Path.u_N _ v) (by simp) (frame_Part.u_P x _)
def frame_Part.zero : frame_Part := ⟨api_Path.zero, false⟩
theorem frame_Part.inj {x y : frame_Part} (h : x.enc = y.enc) : x = y := by
  have h0 := api_Path.inj (((frame_Part.s_P x).2.symm.trans (by rw [h])).trans (frame_Part.s_P y).2)
  have h1 := Option.some.inj (((frame_Part.g_ToA x).symm.trans (by rw [h])).trans (frame_Part.g_ToA y))
  simp only [Value.bool.injEq] at h1
  cases x; cases y; simp only at h0 h1; subst h0 h1; rfl

structure frame_Peers where
  P : api_Path
  ToA : Bool
  IDs : Value
def frame_Peers.enc (x : frame_Peers) : Array Value := catA [(x.P).enc, #[Value.bool x.ToA], #[x.IDs]]
theorem frame_Peers.size (x : frame_Peers) : x.enc.size = 19 := by rw [frame_Peers.enc, catA_size]; simp [szs, api_Path.size]
theorem frame_Peers.one (x : frame_Peers) (h0 : x.IDs.oneCell' = true) : Ones x.enc := Ones.cat (by
  intro p hp
  simp only [List.mem_cons, List.not_mem_nil, or_false] at hp
  rcases hp with rfl | rfl | rfl
  · exact api_Path.one _
  · exact Ones.single rfl
  · exact Ones.single h0)
theorem frame_Peers.s_P (x : frame_Peers) : Sel x.enc 0 17 ((x.P).enc) := Sel.cat [] ((x.P).enc) [#[Value.bool x.ToA], #[x.IDs]] (rfl) (api_Path.size _)
theorem frame_Peers.u_P (x : frame_Peers) (v : api_Path) : Upd x.enc 0 (v.enc) (frame_Peers.enc { x with P := v }) := Upd.cat [] ((x.P).enc) (v.enc) [#[Value.bool x.ToA], #[x.IDs]] (rfl) (by simp [api_Path.size])
theorem frame_Peers.s_ToA (x : frame_Peers) : Sel x.enc 17 1 (#[Value.bool x.ToA]) := Sel.cat [(x.P).enc] (#[Value.bool x.ToA]) [#[x.IDs]] (by simp [szs, api_Path.size]) (rfl)
theorem frame_Peers.u_ToA (x : frame_Peers) (v : Bool) : Upd x.enc 17 (#[Value.bool v]) (frame_Peers.enc { x with ToA := v }) := Upd.cat [(x.P).enc] (#[Value.bool x.ToA]) (#[Value.bool v]) [#[x.IDs]] (by simp [szs, api_Path.size]) (rfl)
theorem frame_Peers.g_ToA (x : frame_Peers) : x.enc[17]? = some (Value.bool x.ToA) := (frame_Peers.s_ToA x).one
theorem frame_Peers.s_IDs (x : frame_Peers) : Sel x.enc 18 1 (#[x.IDs]) := Sel.cat [(x.P).enc, #[Value.bool x.ToA]] (#[x.IDs]) [] (by simp [szs, api_Path.size]) (rfl)
theorem frame_Peers.u_IDs (x : frame_Peers) (v : Value) : Upd x.enc 18 (#[v]) (frame_Peers.enc { x with IDs := v }) := Upd.cat [(x.P).enc, #[Value.bool x.ToA]] (#[x.IDs]) (#[v]) [] (by simp [szs, api_Path.size]) (rfl)
theorem frame_Peers.g_IDs (x : frame_Peers) : x.enc[18]? = some (x.IDs) := (frame_Peers.s_IDs x).one
theorem frame_Peers.s_P_Who (x : frame_Peers) : Sel x.enc 0 16 (x.P.Who.enc) := (frame_Peers.s_P x).trans (api_Path.s_Who _)
theorem frame_Peers.u_P_Who (x : frame_Peers) (v : Idn) : Upd x.enc 0 (v.enc) (frame_Peers.enc { x with P := { x.P with Who := v } }) := Upd.trans (o := 0) (o' := 0) (frame_Peers.s_P x) (api_Path.u_Who _ v) (by simp [Idn.size]) (frame_Peers.u_P x _)
theorem frame_Peers.g_P_N (x : frame_Peers) : x.enc[16]? = some (Value.int .i64 x.P.N) := (frame_Peers.s_P x).get (api_Path.g_N _)
theorem frame_Peers.u_P_N (x : frame_Peers) (v : Int) : Upd x.enc 16 (#[Value.int .i64 v]) (frame_Peers.enc { x with P := { x.P with N := v } }) := Upd.trans (o := 0) (o' := 16) (frame_Peers.s_P x) (api_Path.u_N _ v) (by simp) (frame_Peers.u_P x _)
def frame_Peers.zero : frame_Peers := ⟨api_Path.zero, false, .slice none 0 0⟩

structure frame_Ask where
  Who : Idn
  Want : Idn
  Leg : Int
  P : api_Path
  ToA : Bool
  Trail : Value
def frame_Ask.enc (x : frame_Ask) : Array Value := catA [(x.Who).enc, (x.Want).enc, #[Value.int .i64 x.Leg], (x.P).enc, #[Value.bool x.ToA], #[x.Trail]]
theorem frame_Ask.size (x : frame_Ask) : x.enc.size = 52 := by rw [frame_Ask.enc, catA_size]; simp [szs, Idn.size, api_Path.size]
theorem frame_Ask.one (x : frame_Ask) (h0 : x.Trail.oneCell' = true) : Ones x.enc := Ones.cat (by
  intro p hp
  simp only [List.mem_cons, List.not_mem_nil, or_false] at hp
  rcases hp with rfl | rfl | rfl | rfl | rfl | rfl
  · exact Idn.one _
  · exact Idn.one _
  · exact Ones.single rfl
  · exact api_Path.one _
  · exact Ones.single rfl
  · exact Ones.single h0)
theorem frame_Ask.s_Who (x : frame_Ask) : Sel x.enc 0 16 ((x.Who).enc) := Sel.cat [] ((x.Who).enc) [(x.Want).enc, #[Value.int .i64 x.Leg], (x.P).enc, #[Value.bool x.ToA], #[x.Trail]] (rfl) (Idn.size _)
theorem frame_Ask.u_Who (x : frame_Ask) (v : Idn) : Upd x.enc 0 (v.enc) (frame_Ask.enc { x with Who := v }) := Upd.cat [] ((x.Who).enc) (v.enc) [(x.Want).enc, #[Value.int .i64 x.Leg], (x.P).enc, #[Value.bool x.ToA], #[x.Trail]] (rfl) (by simp [Idn.size])
theorem frame_Ask.s_Want (x : frame_Ask) : Sel x.enc 16 16 ((x.Want).enc) := Sel.cat [(x.Who).enc] ((x.Want).enc) [#[Value.int .i64 x.Leg], (x.P).enc, #[Value.bool x.ToA], #[x.Trail]] (by simp [szs, Idn.size]) (Idn.size _)
theorem frame_Ask.u_Want (x : frame_Ask) (v : Idn) : Upd x.enc 16 (v.enc) (frame_Ask.enc { x with Want := v }) := Upd.cat [(x.Who).enc] ((x.Want).enc) (v.enc) [#[Value.int .i64 x.Leg], (x.P).enc, #[Value.bool x.ToA], #[x.Trail]] (by simp [szs, Idn.size]) (by simp [Idn.size])
theorem frame_Ask.s_Leg (x : frame_Ask) : Sel x.enc 32 1 (#[Value.int .i64 x.Leg]) := Sel.cat [(x.Who).enc, (x.Want).enc] (#[Value.int .i64 x.Leg]) [(x.P).enc, #[Value.bool x.ToA], #[x.Trail]] (by simp [szs, Idn.size]) (rfl)
theorem frame_Ask.u_Leg (x : frame_Ask) (v : Int) : Upd x.enc 32 (#[Value.int .i64 v]) (frame_Ask.enc { x with Leg := v }) := Upd.cat [(x.Who).enc, (x.Want).enc] (#[Value.int .i64 x.Leg]) (#[Value.int .i64 v]) [(x.P).enc, #[Value.bool x.ToA], #[x.Trail]] (by simp [szs, Idn.size]) (rfl)
theorem frame_Ask.g_Leg (x : frame_Ask) : x.enc[32]? = some (Value.int .i64 x.Leg) := (frame_Ask.s_Leg x).one
theorem frame_Ask.s_P (x : frame_Ask) : Sel x.enc 33 17 ((x.P).enc) := Sel.cat [(x.Who).enc, (x.Want).enc, #[Value.int .i64 x.Leg]] ((x.P).enc) [#[Value.bool x.ToA], #[x.Trail]] (by simp [szs, Idn.size]) (api_Path.size _)
theorem frame_Ask.u_P (x : frame_Ask) (v : api_Path) : Upd x.enc 33 (v.enc) (frame_Ask.enc { x with P := v }) := Upd.cat [(x.Who).enc, (x.Want).enc, #[Value.int .i64 x.Leg]] ((x.P).enc) (v.enc) [#[Value.bool x.ToA], #[x.Trail]] (by simp [szs, Idn.size]) (by simp [api_Path.size])
theorem frame_Ask.s_ToA (x : frame_Ask) : Sel x.enc 50 1 (#[Value.bool x.ToA]) := Sel.cat [(x.Who).enc, (x.Want).enc, #[Value.int .i64 x.Leg], (x.P).enc] (#[Value.bool x.ToA]) [#[x.Trail]] (by simp [szs, Idn.size, api_Path.size]) (rfl)
theorem frame_Ask.u_ToA (x : frame_Ask) (v : Bool) : Upd x.enc 50 (#[Value.bool v]) (frame_Ask.enc { x with ToA := v }) := Upd.cat [(x.Who).enc, (x.Want).enc, #[Value.int .i64 x.Leg], (x.P).enc] (#[Value.bool x.ToA]) (#[Value.bool v]) [#[x.Trail]] (by simp [szs, Idn.size, api_Path.size]) (rfl)
theorem frame_Ask.g_ToA (x : frame_Ask) : x.enc[50]? = some (Value.bool x.ToA) := (frame_Ask.s_ToA x).one
theorem frame_Ask.s_Trail (x : frame_Ask) : Sel x.enc 51 1 (#[x.Trail]) := Sel.cat [(x.Who).enc, (x.Want).enc, #[Value.int .i64 x.Leg], (x.P).enc, #[Value.bool x.ToA]] (#[x.Trail]) [] (by simp [szs, Idn.size, api_Path.size]) (rfl)
theorem frame_Ask.u_Trail (x : frame_Ask) (v : Value) : Upd x.enc 51 (#[v]) (frame_Ask.enc { x with Trail := v }) := Upd.cat [(x.Who).enc, (x.Want).enc, #[Value.int .i64 x.Leg], (x.P).enc, #[Value.bool x.ToA]] (#[x.Trail]) (#[v]) [] (by simp [szs, Idn.size, api_Path.size]) (rfl)
theorem frame_Ask.g_Trail (x : frame_Ask) : x.enc[51]? = some (x.Trail) := (frame_Ask.s_Trail x).one
theorem frame_Ask.s_P_Who (x : frame_Ask) : Sel x.enc 33 16 (x.P.Who.enc) := (frame_Ask.s_P x).trans (api_Path.s_Who _)
theorem frame_Ask.u_P_Who (x : frame_Ask) (v : Idn) : Upd x.enc 33 (v.enc) (frame_Ask.enc { x with P := { x.P with Who := v } }) := Upd.trans (o := 33) (o' := 0) (frame_Ask.s_P x) (api_Path.u_Who _ v) (by simp [Idn.size]) (frame_Ask.u_P x _)
theorem frame_Ask.g_P_N (x : frame_Ask) : x.enc[49]? = some (Value.int .i64 x.P.N) := (frame_Ask.s_P x).get (api_Path.g_N _)
theorem frame_Ask.u_P_N (x : frame_Ask) (v : Int) : Upd x.enc 49 (#[Value.int .i64 v]) (frame_Ask.enc { x with P := { x.P with N := v } }) := Upd.trans (o := 33) (o' := 16) (frame_Ask.s_P x) (api_Path.u_N _ v) (by simp) (frame_Ask.u_P x _)
def frame_Ask.zero : frame_Ask := ⟨Idn.zero, Idn.zero, 0, api_Path.zero, false, .slice none 0 0⟩

structure frame_Advert where
  ID : Idn
  Far : Int
deriving DecidableEq
def frame_Advert.enc (x : frame_Advert) : Array Value := catA [(x.ID).enc, #[Value.int .i64 x.Far]]
theorem frame_Advert.size (x : frame_Advert) : x.enc.size = 17 := by rw [frame_Advert.enc, catA_size]; simp [szs, Idn.size]
theorem frame_Advert.one (x : frame_Advert) : Ones x.enc := Ones.cat (by
  intro p hp
  simp only [List.mem_cons, List.not_mem_nil, or_false] at hp
  rcases hp with rfl | rfl
  · exact Idn.one _
  · exact Ones.single rfl)
theorem frame_Advert.pl (x : frame_Advert) : Pl x.enc := Pl.cat (by
  intro p hp
  simp only [List.mem_cons, List.not_mem_nil, or_false] at hp
  rcases hp with rfl | rfl
  · exact Idn.pl _
  · exact Pl.single rfl)
theorem frame_Advert.s_ID (x : frame_Advert) : Sel x.enc 0 16 ((x.ID).enc) := Sel.cat [] ((x.ID).enc) [#[Value.int .i64 x.Far]] (rfl) (Idn.size _)
theorem frame_Advert.u_ID (x : frame_Advert) (v : Idn) : Upd x.enc 0 (v.enc) (frame_Advert.enc { x with ID := v }) := Upd.cat [] ((x.ID).enc) (v.enc) [#[Value.int .i64 x.Far]] (rfl) (by simp [Idn.size])
theorem frame_Advert.s_Far (x : frame_Advert) : Sel x.enc 16 1 (#[Value.int .i64 x.Far]) := Sel.cat [(x.ID).enc] (#[Value.int .i64 x.Far]) [] (by simp [szs, Idn.size]) (rfl)
theorem frame_Advert.u_Far (x : frame_Advert) (v : Int) : Upd x.enc 16 (#[Value.int .i64 v]) (frame_Advert.enc { x with Far := v }) := Upd.cat [(x.ID).enc] (#[Value.int .i64 x.Far]) (#[Value.int .i64 v]) [] (by simp [szs, Idn.size]) (rfl)
theorem frame_Advert.g_Far (x : frame_Advert) : x.enc[16]? = some (Value.int .i64 x.Far) := (frame_Advert.s_Far x).one
def frame_Advert.zero : frame_Advert := ⟨Idn.zero, 0⟩
theorem frame_Advert.inj {x y : frame_Advert} (h : x.enc = y.enc) : x = y := by
  have h0 := Idn.enc_inj (((frame_Advert.s_ID x).2.symm.trans (by rw [h])).trans (frame_Advert.s_ID y).2)
  have h1 := Option.some.inj (((frame_Advert.g_Far x).symm.trans (by rw [h])).trans (frame_Advert.g_Far y))
  simp only [Value.int.injEq, true_and] at h1
  cases x; cases y; simp only at h0 h1; subst h0 h1; rfl

structure frame_Packet where
  Src : Idn
  Dst : Idn
  Req : Int
  Op : Int
  TTL : Int
  Itm : api_Item
  Text : Value
def frame_Packet.enc (x : frame_Packet) : Array Value := catA [(x.Src).enc, (x.Dst).enc, #[Value.int .i64 x.Req], #[Value.int .i64 x.Op], #[Value.int .i64 x.TTL], (x.Itm).enc, #[x.Text]]
theorem frame_Packet.size (x : frame_Packet) : x.enc.size = 70 := by rw [frame_Packet.enc, catA_size]; simp [szs, Idn.size, api_Item.size]
theorem frame_Packet.one (x : frame_Packet) (h0 : x.Itm.Val.oneCell' = true) (h1 : x.Text.oneCell' = true) : Ones x.enc := Ones.cat (by
  intro p hp
  simp only [List.mem_cons, List.not_mem_nil, or_false] at hp
  rcases hp with rfl | rfl | rfl | rfl | rfl | rfl | rfl
  · exact Idn.one _
  · exact Idn.one _
  · exact Ones.single rfl
  · exact Ones.single rfl
  · exact Ones.single rfl
  · exact api_Item.one _ h0
  · exact Ones.single h1)
theorem frame_Packet.s_Src (x : frame_Packet) : Sel x.enc 0 16 ((x.Src).enc) := Sel.cat [] ((x.Src).enc) [(x.Dst).enc, #[Value.int .i64 x.Req], #[Value.int .i64 x.Op], #[Value.int .i64 x.TTL], (x.Itm).enc, #[x.Text]] (rfl) (Idn.size _)
theorem frame_Packet.u_Src (x : frame_Packet) (v : Idn) : Upd x.enc 0 (v.enc) (frame_Packet.enc { x with Src := v }) := Upd.cat [] ((x.Src).enc) (v.enc) [(x.Dst).enc, #[Value.int .i64 x.Req], #[Value.int .i64 x.Op], #[Value.int .i64 x.TTL], (x.Itm).enc, #[x.Text]] (rfl) (by simp [Idn.size])
theorem frame_Packet.s_Dst (x : frame_Packet) : Sel x.enc 16 16 ((x.Dst).enc) := Sel.cat [(x.Src).enc] ((x.Dst).enc) [#[Value.int .i64 x.Req], #[Value.int .i64 x.Op], #[Value.int .i64 x.TTL], (x.Itm).enc, #[x.Text]] (by simp [szs, Idn.size]) (Idn.size _)
theorem frame_Packet.u_Dst (x : frame_Packet) (v : Idn) : Upd x.enc 16 (v.enc) (frame_Packet.enc { x with Dst := v }) := Upd.cat [(x.Src).enc] ((x.Dst).enc) (v.enc) [#[Value.int .i64 x.Req], #[Value.int .i64 x.Op], #[Value.int .i64 x.TTL], (x.Itm).enc, #[x.Text]] (by simp [szs, Idn.size]) (by simp [Idn.size])
theorem frame_Packet.s_Req (x : frame_Packet) : Sel x.enc 32 1 (#[Value.int .i64 x.Req]) := Sel.cat [(x.Src).enc, (x.Dst).enc] (#[Value.int .i64 x.Req]) [#[Value.int .i64 x.Op], #[Value.int .i64 x.TTL], (x.Itm).enc, #[x.Text]] (by simp [szs, Idn.size]) (rfl)
theorem frame_Packet.u_Req (x : frame_Packet) (v : Int) : Upd x.enc 32 (#[Value.int .i64 v]) (frame_Packet.enc { x with Req := v }) := Upd.cat [(x.Src).enc, (x.Dst).enc] (#[Value.int .i64 x.Req]) (#[Value.int .i64 v]) [#[Value.int .i64 x.Op], #[Value.int .i64 x.TTL], (x.Itm).enc, #[x.Text]] (by simp [szs, Idn.size]) (rfl)
theorem frame_Packet.g_Req (x : frame_Packet) : x.enc[32]? = some (Value.int .i64 x.Req) := (frame_Packet.s_Req x).one
theorem frame_Packet.s_Op (x : frame_Packet) : Sel x.enc 33 1 (#[Value.int .i64 x.Op]) := Sel.cat [(x.Src).enc, (x.Dst).enc, #[Value.int .i64 x.Req]] (#[Value.int .i64 x.Op]) [#[Value.int .i64 x.TTL], (x.Itm).enc, #[x.Text]] (by simp [szs, Idn.size]) (rfl)
theorem frame_Packet.u_Op (x : frame_Packet) (v : Int) : Upd x.enc 33 (#[Value.int .i64 v]) (frame_Packet.enc { x with Op := v }) := Upd.cat [(x.Src).enc, (x.Dst).enc, #[Value.int .i64 x.Req]] (#[Value.int .i64 x.Op]) (#[Value.int .i64 v]) [#[Value.int .i64 x.TTL], (x.Itm).enc, #[x.Text]] (by simp [szs, Idn.size]) (rfl)
theorem frame_Packet.g_Op (x : frame_Packet) : x.enc[33]? = some (Value.int .i64 x.Op) := (frame_Packet.s_Op x).one
theorem frame_Packet.s_TTL (x : frame_Packet) : Sel x.enc 34 1 (#[Value.int .i64 x.TTL]) := Sel.cat [(x.Src).enc, (x.Dst).enc, #[Value.int .i64 x.Req], #[Value.int .i64 x.Op]] (#[Value.int .i64 x.TTL]) [(x.Itm).enc, #[x.Text]] (by simp [szs, Idn.size]) (rfl)
theorem frame_Packet.u_TTL (x : frame_Packet) (v : Int) : Upd x.enc 34 (#[Value.int .i64 v]) (frame_Packet.enc { x with TTL := v }) := Upd.cat [(x.Src).enc, (x.Dst).enc, #[Value.int .i64 x.Req], #[Value.int .i64 x.Op]] (#[Value.int .i64 x.TTL]) (#[Value.int .i64 v]) [(x.Itm).enc, #[x.Text]] (by simp [szs, Idn.size]) (rfl)
theorem frame_Packet.g_TTL (x : frame_Packet) : x.enc[34]? = some (Value.int .i64 x.TTL) := (frame_Packet.s_TTL x).one
theorem frame_Packet.s_Itm (x : frame_Packet) : Sel x.enc 35 34 ((x.Itm).enc) := Sel.cat [(x.Src).enc, (x.Dst).enc, #[Value.int .i64 x.Req], #[Value.int .i64 x.Op], #[Value.int .i64 x.TTL]] ((x.Itm).enc) [#[x.Text]] (by simp [szs, Idn.size]) (api_Item.size _)
theorem frame_Packet.u_Itm (x : frame_Packet) (v : api_Item) : Upd x.enc 35 (v.enc) (frame_Packet.enc { x with Itm := v }) := Upd.cat [(x.Src).enc, (x.Dst).enc, #[Value.int .i64 x.Req], #[Value.int .i64 x.Op], #[Value.int .i64 x.TTL]] ((x.Itm).enc) (v.enc) [#[x.Text]] (by simp [szs, Idn.size]) (by simp [api_Item.size])
theorem frame_Packet.s_Text (x : frame_Packet) : Sel x.enc 69 1 (#[x.Text]) := Sel.cat [(x.Src).enc, (x.Dst).enc, #[Value.int .i64 x.Req], #[Value.int .i64 x.Op], #[Value.int .i64 x.TTL], (x.Itm).enc] (#[x.Text]) [] (by simp [szs, Idn.size, api_Item.size]) (rfl)
theorem frame_Packet.u_Text (x : frame_Packet) (v : Value) : Upd x.enc 69 (#[v]) (frame_Packet.enc { x with Text := v }) := Upd.cat [(x.Src).enc, (x.Dst).enc, #[Value.int .i64 x.Req], #[Value.int .i64 x.Op], #[Value.int .i64 x.TTL], (x.Itm).enc] (#[x.Text]) (#[v]) [] (by simp [szs, Idn.size, api_Item.size]) (rfl)
theorem frame_Packet.g_Text (x : frame_Packet) : x.enc[69]? = some (x.Text) := (frame_Packet.s_Text x).one
theorem frame_Packet.s_Itm_Key (x : frame_Packet) : Sel x.enc 35 16 (x.Itm.Key.enc) := (frame_Packet.s_Itm x).trans (api_Item.s_Key _)
theorem frame_Packet.u_Itm_Key (x : frame_Packet) (v : Idn) : Upd x.enc 35 (v.enc) (frame_Packet.enc { x with Itm := { x.Itm with Key := v } }) := Upd.trans (o := 35) (o' := 0) (frame_Packet.s_Itm x) (api_Item.u_Key _ v) (by simp [Idn.size]) (frame_Packet.u_Itm x _)
theorem frame_Packet.s_Itm_Ver (x : frame_Packet) : Sel x.enc 51 17 (x.Itm.Ver.enc) := (frame_Packet.s_Itm x).trans (api_Item.s_Ver _)
theorem frame_Packet.u_Itm_Ver (x : frame_Packet) (v : api_Ver) : Upd x.enc 51 (v.enc) (frame_Packet.enc { x with Itm := { x.Itm with Ver := v } }) := Upd.trans (o := 35) (o' := 16) (frame_Packet.s_Itm x) (api_Item.u_Ver _ v) (by simp [api_Ver.size]) (frame_Packet.u_Itm x _)
theorem frame_Packet.g_Itm_Ver_N (x : frame_Packet) : x.enc[51]? = some (Value.int .i64 x.Itm.Ver.N) := (frame_Packet.s_Itm x).get (api_Item.g_Ver_N _)
theorem frame_Packet.u_Itm_Ver_N (x : frame_Packet) (v : Int) : Upd x.enc 51 (#[Value.int .i64 v]) (frame_Packet.enc { x with Itm := { x.Itm with Ver := { x.Itm.Ver with N := v } } }) := Upd.trans (o := 35) (o' := 16) (frame_Packet.s_Itm x) (api_Item.u_Ver_N _ v) (by simp) (frame_Packet.u_Itm x _)
theorem frame_Packet.s_Itm_Ver_Who (x : frame_Packet) : Sel x.enc 52 16 (x.Itm.Ver.Who.enc) := (frame_Packet.s_Itm x).trans (api_Item.s_Ver_Who _)
theorem frame_Packet.u_Itm_Ver_Who (x : frame_Packet) (v : Idn) : Upd x.enc 52 (v.enc) (frame_Packet.enc { x with Itm := { x.Itm with Ver := { x.Itm.Ver with Who := v } } }) := Upd.trans (o := 35) (o' := 17) (frame_Packet.s_Itm x) (api_Item.u_Ver_Who _ v) (by simp [Idn.size]) (frame_Packet.u_Itm x _)
theorem frame_Packet.g_Itm_Val (x : frame_Packet) : x.enc[68]? = some (x.Itm.Val) := (frame_Packet.s_Itm x).get (api_Item.g_Val _)
theorem frame_Packet.u_Itm_Val (x : frame_Packet) (v : Value) : Upd x.enc 68 (#[v]) (frame_Packet.enc { x with Itm := { x.Itm with Val := v } }) := Upd.trans (o := 35) (o' := 33) (frame_Packet.s_Itm x) (api_Item.u_Val _ v) (by simp) (frame_Packet.u_Itm x _)
def frame_Packet.zero : frame_Packet := ⟨Idn.zero, Idn.zero, 0, 0, 0, api_Item.zero, .slice none 0 0⟩

structure frame_Copy where
  P : api_Path
  ToA : Bool
  Itm : api_Item
def frame_Copy.enc (x : frame_Copy) : Array Value := catA [(x.P).enc, #[Value.bool x.ToA], (x.Itm).enc]
theorem frame_Copy.size (x : frame_Copy) : x.enc.size = 52 := by rw [frame_Copy.enc, catA_size]; simp [szs, api_Path.size, api_Item.size]
theorem frame_Copy.one (x : frame_Copy) (h0 : x.Itm.Val.oneCell' = true) : Ones x.enc := Ones.cat (by
  intro p hp
  simp only [List.mem_cons, List.not_mem_nil, or_false] at hp
  rcases hp with rfl | rfl | rfl
  · exact api_Path.one _
  · exact Ones.single rfl
  · exact api_Item.one _ h0)
theorem frame_Copy.s_P (x : frame_Copy) : Sel x.enc 0 17 ((x.P).enc) := Sel.cat [] ((x.P).enc) [#[Value.bool x.ToA], (x.Itm).enc] (rfl) (api_Path.size _)
theorem frame_Copy.u_P (x : frame_Copy) (v : api_Path) : Upd x.enc 0 (v.enc) (frame_Copy.enc { x with P := v }) := Upd.cat [] ((x.P).enc) (v.enc) [#[Value.bool x.ToA], (x.Itm).enc] (rfl) (by simp [api_Path.size])
theorem frame_Copy.s_ToA (x : frame_Copy) : Sel x.enc 17 1 (#[Value.bool x.ToA]) := Sel.cat [(x.P).enc] (#[Value.bool x.ToA]) [(x.Itm).enc] (by simp [szs, api_Path.size]) (rfl)
theorem frame_Copy.u_ToA (x : frame_Copy) (v : Bool) : Upd x.enc 17 (#[Value.bool v]) (frame_Copy.enc { x with ToA := v }) := Upd.cat [(x.P).enc] (#[Value.bool x.ToA]) (#[Value.bool v]) [(x.Itm).enc] (by simp [szs, api_Path.size]) (rfl)
theorem frame_Copy.g_ToA (x : frame_Copy) : x.enc[17]? = some (Value.bool x.ToA) := (frame_Copy.s_ToA x).one
theorem frame_Copy.s_Itm (x : frame_Copy) : Sel x.enc 18 34 ((x.Itm).enc) := Sel.cat [(x.P).enc, #[Value.bool x.ToA]] ((x.Itm).enc) [] (by simp [szs, api_Path.size]) (api_Item.size _)
theorem frame_Copy.u_Itm (x : frame_Copy) (v : api_Item) : Upd x.enc 18 (v.enc) (frame_Copy.enc { x with Itm := v }) := Upd.cat [(x.P).enc, #[Value.bool x.ToA]] ((x.Itm).enc) (v.enc) [] (by simp [szs, api_Path.size]) (by simp [api_Item.size])
theorem frame_Copy.s_P_Who (x : frame_Copy) : Sel x.enc 0 16 (x.P.Who.enc) := (frame_Copy.s_P x).trans (api_Path.s_Who _)
theorem frame_Copy.u_P_Who (x : frame_Copy) (v : Idn) : Upd x.enc 0 (v.enc) (frame_Copy.enc { x with P := { x.P with Who := v } }) := Upd.trans (o := 0) (o' := 0) (frame_Copy.s_P x) (api_Path.u_Who _ v) (by simp [Idn.size]) (frame_Copy.u_P x _)
theorem frame_Copy.g_P_N (x : frame_Copy) : x.enc[16]? = some (Value.int .i64 x.P.N) := (frame_Copy.s_P x).get (api_Path.g_N _)
theorem frame_Copy.u_P_N (x : frame_Copy) (v : Int) : Upd x.enc 16 (#[Value.int .i64 v]) (frame_Copy.enc { x with P := { x.P with N := v } }) := Upd.trans (o := 0) (o' := 16) (frame_Copy.s_P x) (api_Path.u_N _ v) (by simp) (frame_Copy.u_P x _)
theorem frame_Copy.s_Itm_Key (x : frame_Copy) : Sel x.enc 18 16 (x.Itm.Key.enc) := (frame_Copy.s_Itm x).trans (api_Item.s_Key _)
theorem frame_Copy.u_Itm_Key (x : frame_Copy) (v : Idn) : Upd x.enc 18 (v.enc) (frame_Copy.enc { x with Itm := { x.Itm with Key := v } }) := Upd.trans (o := 18) (o' := 0) (frame_Copy.s_Itm x) (api_Item.u_Key _ v) (by simp [Idn.size]) (frame_Copy.u_Itm x _)
theorem frame_Copy.s_Itm_Ver (x : frame_Copy) : Sel x.enc 34 17 (x.Itm.Ver.enc) := (frame_Copy.s_Itm x).trans (api_Item.s_Ver _)
theorem frame_Copy.u_Itm_Ver (x : frame_Copy) (v : api_Ver) : Upd x.enc 34 (v.enc) (frame_Copy.enc { x with Itm := { x.Itm with Ver := v } }) := Upd.trans (o := 18) (o' := 16) (frame_Copy.s_Itm x) (api_Item.u_Ver _ v) (by simp [api_Ver.size]) (frame_Copy.u_Itm x _)
theorem frame_Copy.g_Itm_Ver_N (x : frame_Copy) : x.enc[34]? = some (Value.int .i64 x.Itm.Ver.N) := (frame_Copy.s_Itm x).get (api_Item.g_Ver_N _)
theorem frame_Copy.u_Itm_Ver_N (x : frame_Copy) (v : Int) : Upd x.enc 34 (#[Value.int .i64 v]) (frame_Copy.enc { x with Itm := { x.Itm with Ver := { x.Itm.Ver with N := v } } }) := Upd.trans (o := 18) (o' := 16) (frame_Copy.s_Itm x) (api_Item.u_Ver_N _ v) (by simp) (frame_Copy.u_Itm x _)
theorem frame_Copy.s_Itm_Ver_Who (x : frame_Copy) : Sel x.enc 35 16 (x.Itm.Ver.Who.enc) := (frame_Copy.s_Itm x).trans (api_Item.s_Ver_Who _)
theorem frame_Copy.u_Itm_Ver_Who (x : frame_Copy) (v : Idn) : Upd x.enc 35 (v.enc) (frame_Copy.enc { x with Itm := { x.Itm with Ver := { x.Itm.Ver with Who := v } } }) := Upd.trans (o := 18) (o' := 17) (frame_Copy.s_Itm x) (api_Item.u_Ver_Who _ v) (by simp [Idn.size]) (frame_Copy.u_Itm x _)
theorem frame_Copy.g_Itm_Val (x : frame_Copy) : x.enc[51]? = some (x.Itm.Val) := (frame_Copy.s_Itm x).get (api_Item.g_Val _)
theorem frame_Copy.u_Itm_Val (x : frame_Copy) (v : Value) : Upd x.enc 51 (#[v]) (frame_Copy.enc { x with Itm := { x.Itm with Val := v } }) := Upd.trans (o := 18) (o' := 33) (frame_Copy.s_Itm x) (api_Item.u_Val _ v) (by simp) (frame_Copy.u_Itm x _)
def frame_Copy.zero : frame_Copy := ⟨api_Path.zero, false, api_Item.zero⟩

structure frame_Got where
  P : api_Path
  ToA : Bool
  Key : Idn
  Ver : api_Ver
deriving DecidableEq
def frame_Got.enc (x : frame_Got) : Array Value := catA [(x.P).enc, #[Value.bool x.ToA], (x.Key).enc, (x.Ver).enc]
theorem frame_Got.size (x : frame_Got) : x.enc.size = 51 := by rw [frame_Got.enc, catA_size]; simp [szs, api_Path.size, Idn.size, api_Ver.size]
theorem frame_Got.one (x : frame_Got) : Ones x.enc := Ones.cat (by
  intro p hp
  simp only [List.mem_cons, List.not_mem_nil, or_false] at hp
  rcases hp with rfl | rfl | rfl | rfl
  · exact api_Path.one _
  · exact Ones.single rfl
  · exact Idn.one _
  · exact api_Ver.one _)
theorem frame_Got.pl (x : frame_Got) : Pl x.enc := Pl.cat (by
  intro p hp
  simp only [List.mem_cons, List.not_mem_nil, or_false] at hp
  rcases hp with rfl | rfl | rfl | rfl
  · exact api_Path.pl _
  · exact Pl.single rfl
  · exact Idn.pl _
  · exact api_Ver.pl _)
theorem frame_Got.s_P (x : frame_Got) : Sel x.enc 0 17 ((x.P).enc) := Sel.cat [] ((x.P).enc) [#[Value.bool x.ToA], (x.Key).enc, (x.Ver).enc] (rfl) (api_Path.size _)
theorem frame_Got.u_P (x : frame_Got) (v : api_Path) : Upd x.enc 0 (v.enc) (frame_Got.enc { x with P := v }) := Upd.cat [] ((x.P).enc) (v.enc) [#[Value.bool x.ToA], (x.Key).enc, (x.Ver).enc] (rfl) (by simp [api_Path.size])
theorem frame_Got.s_ToA (x : frame_Got) : Sel x.enc 17 1 (#[Value.bool x.ToA]) := Sel.cat [(x.P).enc] (#[Value.bool x.ToA]) [(x.Key).enc, (x.Ver).enc] (by simp [szs, api_Path.size]) (rfl)
theorem frame_Got.u_ToA (x : frame_Got) (v : Bool) : Upd x.enc 17 (#[Value.bool v]) (frame_Got.enc { x with ToA := v }) := Upd.cat [(x.P).enc] (#[Value.bool x.ToA]) (#[Value.bool v]) [(x.Key).enc, (x.Ver).enc] (by simp [szs, api_Path.size]) (rfl)
theorem frame_Got.g_ToA (x : frame_Got) : x.enc[17]? = some (Value.bool x.ToA) := (frame_Got.s_ToA x).one
theorem frame_Got.s_Key (x : frame_Got) : Sel x.enc 18 16 ((x.Key).enc) := Sel.cat [(x.P).enc, #[Value.bool x.ToA]] ((x.Key).enc) [(x.Ver).enc] (by simp [szs, api_Path.size]) (Idn.size _)
theorem frame_Got.u_Key (x : frame_Got) (v : Idn) : Upd x.enc 18 (v.enc) (frame_Got.enc { x with Key := v }) := Upd.cat [(x.P).enc, #[Value.bool x.ToA]] ((x.Key).enc) (v.enc) [(x.Ver).enc] (by simp [szs, api_Path.size]) (by simp [Idn.size])
theorem frame_Got.s_Ver (x : frame_Got) : Sel x.enc 34 17 ((x.Ver).enc) := Sel.cat [(x.P).enc, #[Value.bool x.ToA], (x.Key).enc] ((x.Ver).enc) [] (by simp [szs, api_Path.size, Idn.size]) (api_Ver.size _)
theorem frame_Got.u_Ver (x : frame_Got) (v : api_Ver) : Upd x.enc 34 (v.enc) (frame_Got.enc { x with Ver := v }) := Upd.cat [(x.P).enc, #[Value.bool x.ToA], (x.Key).enc] ((x.Ver).enc) (v.enc) [] (by simp [szs, api_Path.size, Idn.size]) (by simp [api_Ver.size])
theorem frame_Got.s_P_Who (x : frame_Got) : Sel x.enc 0 16 (x.P.Who.enc) := (frame_Got.s_P x).trans (api_Path.s_Who _)
theorem frame_Got.u_P_Who (x : frame_Got) (v : Idn) : Upd x.enc 0 (v.enc) (frame_Got.enc { x with P := { x.P with Who := v } }) := Upd.trans (o := 0) (o' := 0) (frame_Got.s_P x) (api_Path.u_Who _ v) (by simp [Idn.size]) (frame_Got.u_P x _)
theorem frame_Got.g_P_N (x : frame_Got) : x.enc[16]? = some (Value.int .i64 x.P.N) := (frame_Got.s_P x).get (api_Path.g_N _)
theorem frame_Got.u_P_N (x : frame_Got) (v : Int) : Upd x.enc 16 (#[Value.int .i64 v]) (frame_Got.enc { x with P := { x.P with N := v } }) := Upd.trans (o := 0) (o' := 16) (frame_Got.s_P x) (api_Path.u_N _ v) (by simp) (frame_Got.u_P x _)
theorem frame_Got.g_Ver_N (x : frame_Got) : x.enc[34]? = some (Value.int .i64 x.Ver.N) := (frame_Got.s_Ver x).get (api_Ver.g_N _)
theorem frame_Got.u_Ver_N (x : frame_Got) (v : Int) : Upd x.enc 34 (#[Value.int .i64 v]) (frame_Got.enc { x with Ver := { x.Ver with N := v } }) := Upd.trans (o := 34) (o' := 0) (frame_Got.s_Ver x) (api_Ver.u_N _ v) (by simp) (frame_Got.u_Ver x _)
theorem frame_Got.s_Ver_Who (x : frame_Got) : Sel x.enc 35 16 (x.Ver.Who.enc) := (frame_Got.s_Ver x).trans (api_Ver.s_Who _)
theorem frame_Got.u_Ver_Who (x : frame_Got) (v : Idn) : Upd x.enc 35 (v.enc) (frame_Got.enc { x with Ver := { x.Ver with Who := v } }) := Upd.trans (o := 34) (o' := 1) (frame_Got.s_Ver x) (api_Ver.u_Who _ v) (by simp [Idn.size]) (frame_Got.u_Ver x _)
def frame_Got.zero : frame_Got := ⟨api_Path.zero, false, Idn.zero, api_Ver.zero⟩
theorem frame_Got.inj {x y : frame_Got} (h : x.enc = y.enc) : x = y := by
  have h0 := api_Path.inj (((frame_Got.s_P x).2.symm.trans (by rw [h])).trans (frame_Got.s_P y).2)
  have h1 := Option.some.inj (((frame_Got.g_ToA x).symm.trans (by rw [h])).trans (frame_Got.g_ToA y))
  simp only [Value.bool.injEq] at h1
  have h2 := Idn.enc_inj (((frame_Got.s_Key x).2.symm.trans (by rw [h])).trans (frame_Got.s_Key y).2)
  have h3 := api_Ver.inj (((frame_Got.s_Ver x).2.symm.trans (by rw [h])).trans (frame_Got.s_Ver y).2)
  cases x; cases y; simp only at h0 h1 h2 h3; subst h0 h1 h2 h3; rfl

structure setup_Self where
  N : Int
  ID : Idn
deriving DecidableEq
def setup_Self.enc (x : setup_Self) : Array Value := catA [#[Value.int .i64 x.N], (x.ID).enc]
theorem setup_Self.size (x : setup_Self) : x.enc.size = 17 := by rw [setup_Self.enc, catA_size]; simp [szs, Idn.size]
theorem setup_Self.one (x : setup_Self) : Ones x.enc := Ones.cat (by
  intro p hp
  simp only [List.mem_cons, List.not_mem_nil, or_false] at hp
  rcases hp with rfl | rfl
  · exact Ones.single rfl
  · exact Idn.one _)
theorem setup_Self.pl (x : setup_Self) : Pl x.enc := Pl.cat (by
  intro p hp
  simp only [List.mem_cons, List.not_mem_nil, or_false] at hp
  rcases hp with rfl | rfl
  · exact Pl.single rfl
  · exact Idn.pl _)
theorem setup_Self.s_N (x : setup_Self) : Sel x.enc 0 1 (#[Value.int .i64 x.N]) := Sel.cat [] (#[Value.int .i64 x.N]) [(x.ID).enc] (rfl) (rfl)
theorem setup_Self.u_N (x : setup_Self) (v : Int) : Upd x.enc 0 (#[Value.int .i64 v]) (setup_Self.enc { x with N := v }) := Upd.cat [] (#[Value.int .i64 x.N]) (#[Value.int .i64 v]) [(x.ID).enc] (rfl) (rfl)
theorem setup_Self.g_N (x : setup_Self) : x.enc[0]? = some (Value.int .i64 x.N) := (setup_Self.s_N x).one
theorem setup_Self.s_ID (x : setup_Self) : Sel x.enc 1 16 ((x.ID).enc) := Sel.cat [#[Value.int .i64 x.N]] ((x.ID).enc) [] (by simp [szs]) (Idn.size _)
theorem setup_Self.u_ID (x : setup_Self) (v : Idn) : Upd x.enc 1 (v.enc) (setup_Self.enc { x with ID := v }) := Upd.cat [#[Value.int .i64 x.N]] ((x.ID).enc) (v.enc) [] (by simp [szs]) (by simp [Idn.size])
def setup_Self.zero : setup_Self := ⟨0, Idn.zero⟩
theorem setup_Self.inj {x y : setup_Self} (h : x.enc = y.enc) : x = y := by
  have h0 := Option.some.inj (((setup_Self.g_N x).symm.trans (by rw [h])).trans (setup_Self.g_N y))
  simp only [Value.int.injEq, true_and] at h0
  have h1 := Idn.enc_inj (((setup_Self.s_ID x).2.symm.trans (by rw [h])).trans (setup_Self.s_ID y).2)
  cases x; cases y; simp only at h0 h1; subst h0 h1; rfl

structure annuletlaw14_Case where
  Entries : Value
  Most : Int
  Self : setup_Self
  Open : Value
def annuletlaw14_Case.enc (x : annuletlaw14_Case) : Array Value := catA [#[x.Entries], #[Value.int .i64 x.Most], (x.Self).enc, #[x.Open]]
theorem annuletlaw14_Case.size (x : annuletlaw14_Case) : x.enc.size = 20 := by rw [annuletlaw14_Case.enc, catA_size]; simp [szs, setup_Self.size]
theorem annuletlaw14_Case.one (x : annuletlaw14_Case) (h0 : x.Entries.oneCell' = true) (h1 : x.Open.oneCell' = true) : Ones x.enc := Ones.cat (by
  intro p hp
  simp only [List.mem_cons, List.not_mem_nil, or_false] at hp
  rcases hp with rfl | rfl | rfl | rfl
  · exact Ones.single h0
  · exact Ones.single rfl
  · exact setup_Self.one _
  · exact Ones.single h1)
theorem annuletlaw14_Case.s_Entries (x : annuletlaw14_Case) : Sel x.enc 0 1 (#[x.Entries]) := Sel.cat [] (#[x.Entries]) [#[Value.int .i64 x.Most], (x.Self).enc, #[x.Open]] (rfl) (rfl)
theorem annuletlaw14_Case.u_Entries (x : annuletlaw14_Case) (v : Value) : Upd x.enc 0 (#[v]) (annuletlaw14_Case.enc { x with Entries := v }) := Upd.cat [] (#[x.Entries]) (#[v]) [#[Value.int .i64 x.Most], (x.Self).enc, #[x.Open]] (rfl) (rfl)
theorem annuletlaw14_Case.g_Entries (x : annuletlaw14_Case) : x.enc[0]? = some (x.Entries) := (annuletlaw14_Case.s_Entries x).one
theorem annuletlaw14_Case.s_Most (x : annuletlaw14_Case) : Sel x.enc 1 1 (#[Value.int .i64 x.Most]) := Sel.cat [#[x.Entries]] (#[Value.int .i64 x.Most]) [(x.Self).enc, #[x.Open]] (by simp [szs]) (rfl)
theorem annuletlaw14_Case.u_Most (x : annuletlaw14_Case) (v : Int) : Upd x.enc 1 (#[Value.int .i64 v]) (annuletlaw14_Case.enc { x with Most := v }) := Upd.cat [#[x.Entries]] (#[Value.int .i64 x.Most]) (#[Value.int .i64 v]) [(x.Self).enc, #[x.Open]] (by simp [szs]) (rfl)
theorem annuletlaw14_Case.g_Most (x : annuletlaw14_Case) : x.enc[1]? = some (Value.int .i64 x.Most) := (annuletlaw14_Case.s_Most x).one
theorem annuletlaw14_Case.s_Self (x : annuletlaw14_Case) : Sel x.enc 2 17 ((x.Self).enc) := Sel.cat [#[x.Entries], #[Value.int .i64 x.Most]] ((x.Self).enc) [#[x.Open]] (by simp [szs]) (setup_Self.size _)
theorem annuletlaw14_Case.u_Self (x : annuletlaw14_Case) (v : setup_Self) : Upd x.enc 2 (v.enc) (annuletlaw14_Case.enc { x with Self := v }) := Upd.cat [#[x.Entries], #[Value.int .i64 x.Most]] ((x.Self).enc) (v.enc) [#[x.Open]] (by simp [szs]) (by simp [setup_Self.size])
theorem annuletlaw14_Case.s_Open (x : annuletlaw14_Case) : Sel x.enc 19 1 (#[x.Open]) := Sel.cat [#[x.Entries], #[Value.int .i64 x.Most], (x.Self).enc] (#[x.Open]) [] (by simp [szs, setup_Self.size]) (rfl)
theorem annuletlaw14_Case.u_Open (x : annuletlaw14_Case) (v : Value) : Upd x.enc 19 (#[v]) (annuletlaw14_Case.enc { x with Open := v }) := Upd.cat [#[x.Entries], #[Value.int .i64 x.Most], (x.Self).enc] (#[x.Open]) (#[v]) [] (by simp [szs, setup_Self.size]) (rfl)
theorem annuletlaw14_Case.g_Open (x : annuletlaw14_Case) : x.enc[19]? = some (x.Open) := (annuletlaw14_Case.s_Open x).one
theorem annuletlaw14_Case.g_Self_N (x : annuletlaw14_Case) : x.enc[2]? = some (Value.int .i64 x.Self.N) := (annuletlaw14_Case.s_Self x).get (setup_Self.g_N _)
theorem annuletlaw14_Case.u_Self_N (x : annuletlaw14_Case) (v : Int) : Upd x.enc 2 (#[Value.int .i64 v]) (annuletlaw14_Case.enc { x with Self := { x.Self with N := v } }) := Upd.trans (o := 2) (o' := 0) (annuletlaw14_Case.s_Self x) (setup_Self.u_N _ v) (by simp) (annuletlaw14_Case.u_Self x _)
theorem annuletlaw14_Case.s_Self_ID (x : annuletlaw14_Case) : Sel x.enc 3 16 (x.Self.ID.enc) := (annuletlaw14_Case.s_Self x).trans (setup_Self.s_ID _)
theorem annuletlaw14_Case.u_Self_ID (x : annuletlaw14_Case) (v : Idn) : Upd x.enc 3 (v.enc) (annuletlaw14_Case.enc { x with Self := { x.Self with ID := v } }) := Upd.trans (o := 2) (o' := 1) (annuletlaw14_Case.s_Self x) (setup_Self.u_ID _ v) (by simp [Idn.size]) (annuletlaw14_Case.u_Self x _)
def annuletlaw14_Case.zero : annuletlaw14_Case := ⟨.slice none 0 0, 0, setup_Self.zero, .slice none 0 0⟩

structure annuletlaw14_Way where
  P : api_Path
  B : Idn
  Trail : Value
def annuletlaw14_Way.enc (x : annuletlaw14_Way) : Array Value := catA [(x.P).enc, (x.B).enc, #[x.Trail]]
theorem annuletlaw14_Way.size (x : annuletlaw14_Way) : x.enc.size = 34 := by rw [annuletlaw14_Way.enc, catA_size]; simp [szs, api_Path.size, Idn.size]
theorem annuletlaw14_Way.one (x : annuletlaw14_Way) (h0 : x.Trail.oneCell' = true) : Ones x.enc := Ones.cat (by
  intro p hp
  simp only [List.mem_cons, List.not_mem_nil, or_false] at hp
  rcases hp with rfl | rfl | rfl
  · exact api_Path.one _
  · exact Idn.one _
  · exact Ones.single h0)
theorem annuletlaw14_Way.s_P (x : annuletlaw14_Way) : Sel x.enc 0 17 ((x.P).enc) := Sel.cat [] ((x.P).enc) [(x.B).enc, #[x.Trail]] (rfl) (api_Path.size _)
theorem annuletlaw14_Way.u_P (x : annuletlaw14_Way) (v : api_Path) : Upd x.enc 0 (v.enc) (annuletlaw14_Way.enc { x with P := v }) := Upd.cat [] ((x.P).enc) (v.enc) [(x.B).enc, #[x.Trail]] (rfl) (by simp [api_Path.size])
theorem annuletlaw14_Way.s_B (x : annuletlaw14_Way) : Sel x.enc 17 16 ((x.B).enc) := Sel.cat [(x.P).enc] ((x.B).enc) [#[x.Trail]] (by simp [szs, api_Path.size]) (Idn.size _)
theorem annuletlaw14_Way.u_B (x : annuletlaw14_Way) (v : Idn) : Upd x.enc 17 (v.enc) (annuletlaw14_Way.enc { x with B := v }) := Upd.cat [(x.P).enc] ((x.B).enc) (v.enc) [#[x.Trail]] (by simp [szs, api_Path.size]) (by simp [Idn.size])
theorem annuletlaw14_Way.s_Trail (x : annuletlaw14_Way) : Sel x.enc 33 1 (#[x.Trail]) := Sel.cat [(x.P).enc, (x.B).enc] (#[x.Trail]) [] (by simp [szs, api_Path.size, Idn.size]) (rfl)
theorem annuletlaw14_Way.u_Trail (x : annuletlaw14_Way) (v : Value) : Upd x.enc 33 (#[v]) (annuletlaw14_Way.enc { x with Trail := v }) := Upd.cat [(x.P).enc, (x.B).enc] (#[x.Trail]) (#[v]) [] (by simp [szs, api_Path.size, Idn.size]) (rfl)
theorem annuletlaw14_Way.g_Trail (x : annuletlaw14_Way) : x.enc[33]? = some (x.Trail) := (annuletlaw14_Way.s_Trail x).one
theorem annuletlaw14_Way.s_P_Who (x : annuletlaw14_Way) : Sel x.enc 0 16 (x.P.Who.enc) := (annuletlaw14_Way.s_P x).trans (api_Path.s_Who _)
theorem annuletlaw14_Way.u_P_Who (x : annuletlaw14_Way) (v : Idn) : Upd x.enc 0 (v.enc) (annuletlaw14_Way.enc { x with P := { x.P with Who := v } }) := Upd.trans (o := 0) (o' := 0) (annuletlaw14_Way.s_P x) (api_Path.u_Who _ v) (by simp [Idn.size]) (annuletlaw14_Way.u_P x _)
theorem annuletlaw14_Way.g_P_N (x : annuletlaw14_Way) : x.enc[16]? = some (Value.int .i64 x.P.N) := (annuletlaw14_Way.s_P x).get (api_Path.g_N _)
theorem annuletlaw14_Way.u_P_N (x : annuletlaw14_Way) (v : Int) : Upd x.enc 16 (#[Value.int .i64 v]) (annuletlaw14_Way.enc { x with P := { x.P with N := v } }) := Upd.trans (o := 0) (o' := 16) (annuletlaw14_Way.s_P x) (api_Path.u_N _ v) (by simp) (annuletlaw14_Way.u_P x _)
def annuletlaw14_Way.zero : annuletlaw14_Way := ⟨api_Path.zero, Idn.zero, .slice none 0 0⟩

structure setup_Ended where
  Out : Value
  Mine : Bool
  Full : Bool
def setup_Ended.enc (x : setup_Ended) : Array Value := catA [#[x.Out], #[Value.bool x.Mine], #[Value.bool x.Full]]
theorem setup_Ended.size (x : setup_Ended) : x.enc.size = 3 := by rw [setup_Ended.enc, catA_size]; simp [szs]
theorem setup_Ended.one (x : setup_Ended) (h0 : x.Out.oneCell' = true) : Ones x.enc := Ones.cat (by
  intro p hp
  simp only [List.mem_cons, List.not_mem_nil, or_false] at hp
  rcases hp with rfl | rfl | rfl
  · exact Ones.single h0
  · exact Ones.single rfl
  · exact Ones.single rfl)
theorem setup_Ended.s_Out (x : setup_Ended) : Sel x.enc 0 1 (#[x.Out]) := Sel.cat [] (#[x.Out]) [#[Value.bool x.Mine], #[Value.bool x.Full]] (rfl) (rfl)
theorem setup_Ended.u_Out (x : setup_Ended) (v : Value) : Upd x.enc 0 (#[v]) (setup_Ended.enc { x with Out := v }) := Upd.cat [] (#[x.Out]) (#[v]) [#[Value.bool x.Mine], #[Value.bool x.Full]] (rfl) (rfl)
theorem setup_Ended.g_Out (x : setup_Ended) : x.enc[0]? = some (x.Out) := (setup_Ended.s_Out x).one
theorem setup_Ended.s_Mine (x : setup_Ended) : Sel x.enc 1 1 (#[Value.bool x.Mine]) := Sel.cat [#[x.Out]] (#[Value.bool x.Mine]) [#[Value.bool x.Full]] (by simp [szs]) (rfl)
theorem setup_Ended.u_Mine (x : setup_Ended) (v : Bool) : Upd x.enc 1 (#[Value.bool v]) (setup_Ended.enc { x with Mine := v }) := Upd.cat [#[x.Out]] (#[Value.bool x.Mine]) (#[Value.bool v]) [#[Value.bool x.Full]] (by simp [szs]) (rfl)
theorem setup_Ended.g_Mine (x : setup_Ended) : x.enc[1]? = some (Value.bool x.Mine) := (setup_Ended.s_Mine x).one
theorem setup_Ended.s_Full (x : setup_Ended) : Sel x.enc 2 1 (#[Value.bool x.Full]) := Sel.cat [#[x.Out], #[Value.bool x.Mine]] (#[Value.bool x.Full]) [] (by simp [szs]) (rfl)
theorem setup_Ended.u_Full (x : setup_Ended) (v : Bool) : Upd x.enc 2 (#[Value.bool v]) (setup_Ended.enc { x with Full := v }) := Upd.cat [#[x.Out], #[Value.bool x.Mine]] (#[Value.bool x.Full]) (#[Value.bool v]) [] (by simp [szs]) (rfl)
theorem setup_Ended.g_Full (x : setup_Ended) : x.enc[2]? = some (Value.bool x.Full) := (setup_Ended.s_Full x).one
def setup_Ended.zero : setup_Ended := ⟨.slice none 0 0, false, false⟩

structure annuletref14_Ended where
  Out : Value
  Mine : Bool
  Full : Bool
def annuletref14_Ended.enc (x : annuletref14_Ended) : Array Value := catA [#[x.Out], #[Value.bool x.Mine], #[Value.bool x.Full]]
theorem annuletref14_Ended.size (x : annuletref14_Ended) : x.enc.size = 3 := by rw [annuletref14_Ended.enc, catA_size]; simp [szs]
theorem annuletref14_Ended.one (x : annuletref14_Ended) (h0 : x.Out.oneCell' = true) : Ones x.enc := Ones.cat (by
  intro p hp
  simp only [List.mem_cons, List.not_mem_nil, or_false] at hp
  rcases hp with rfl | rfl | rfl
  · exact Ones.single h0
  · exact Ones.single rfl
  · exact Ones.single rfl)
theorem annuletref14_Ended.s_Out (x : annuletref14_Ended) : Sel x.enc 0 1 (#[x.Out]) := Sel.cat [] (#[x.Out]) [#[Value.bool x.Mine], #[Value.bool x.Full]] (rfl) (rfl)
theorem annuletref14_Ended.u_Out (x : annuletref14_Ended) (v : Value) : Upd x.enc 0 (#[v]) (annuletref14_Ended.enc { x with Out := v }) := Upd.cat [] (#[x.Out]) (#[v]) [#[Value.bool x.Mine], #[Value.bool x.Full]] (rfl) (rfl)
theorem annuletref14_Ended.g_Out (x : annuletref14_Ended) : x.enc[0]? = some (x.Out) := (annuletref14_Ended.s_Out x).one
theorem annuletref14_Ended.s_Mine (x : annuletref14_Ended) : Sel x.enc 1 1 (#[Value.bool x.Mine]) := Sel.cat [#[x.Out]] (#[Value.bool x.Mine]) [#[Value.bool x.Full]] (by simp [szs]) (rfl)
theorem annuletref14_Ended.u_Mine (x : annuletref14_Ended) (v : Bool) : Upd x.enc 1 (#[Value.bool v]) (annuletref14_Ended.enc { x with Mine := v }) := Upd.cat [#[x.Out]] (#[Value.bool x.Mine]) (#[Value.bool v]) [#[Value.bool x.Full]] (by simp [szs]) (rfl)
theorem annuletref14_Ended.g_Mine (x : annuletref14_Ended) : x.enc[1]? = some (Value.bool x.Mine) := (annuletref14_Ended.s_Mine x).one
theorem annuletref14_Ended.s_Full (x : annuletref14_Ended) : Sel x.enc 2 1 (#[Value.bool x.Full]) := Sel.cat [#[x.Out], #[Value.bool x.Mine]] (#[Value.bool x.Full]) [] (by simp [szs]) (rfl)
theorem annuletref14_Ended.u_Full (x : annuletref14_Ended) (v : Bool) : Upd x.enc 2 (#[Value.bool v]) (annuletref14_Ended.enc { x with Full := v }) := Upd.cat [#[x.Out], #[Value.bool x.Mine]] (#[Value.bool x.Full]) (#[Value.bool v]) [] (by simp [szs]) (rfl)
theorem annuletref14_Ended.g_Full (x : annuletref14_Ended) : x.enc[2]? = some (Value.bool x.Full) := (annuletref14_Ended.s_Full x).one
def annuletref14_Ended.zero : annuletref14_Ended := ⟨.slice none 0 0, false, false⟩

structure annuletlaw17_Known where
  Self : Idn
  Friends : Value
  Cands : Value
  Half : Int
def annuletlaw17_Known.enc (x : annuletlaw17_Known) : Array Value := catA [(x.Self).enc, #[x.Friends], #[x.Cands], #[Value.int .i64 x.Half]]
theorem annuletlaw17_Known.size (x : annuletlaw17_Known) : x.enc.size = 19 := by rw [annuletlaw17_Known.enc, catA_size]; simp [szs, Idn.size]
theorem annuletlaw17_Known.one (x : annuletlaw17_Known) (h0 : x.Friends.oneCell' = true) (h1 : x.Cands.oneCell' = true) : Ones x.enc := Ones.cat (by
  intro p hp
  simp only [List.mem_cons, List.not_mem_nil, or_false] at hp
  rcases hp with rfl | rfl | rfl | rfl
  · exact Idn.one _
  · exact Ones.single h0
  · exact Ones.single h1
  · exact Ones.single rfl)
theorem annuletlaw17_Known.s_Self (x : annuletlaw17_Known) : Sel x.enc 0 16 ((x.Self).enc) := Sel.cat [] ((x.Self).enc) [#[x.Friends], #[x.Cands], #[Value.int .i64 x.Half]] (rfl) (Idn.size _)
theorem annuletlaw17_Known.u_Self (x : annuletlaw17_Known) (v : Idn) : Upd x.enc 0 (v.enc) (annuletlaw17_Known.enc { x with Self := v }) := Upd.cat [] ((x.Self).enc) (v.enc) [#[x.Friends], #[x.Cands], #[Value.int .i64 x.Half]] (rfl) (by simp [Idn.size])
theorem annuletlaw17_Known.s_Friends (x : annuletlaw17_Known) : Sel x.enc 16 1 (#[x.Friends]) := Sel.cat [(x.Self).enc] (#[x.Friends]) [#[x.Cands], #[Value.int .i64 x.Half]] (by simp [szs, Idn.size]) (rfl)
theorem annuletlaw17_Known.u_Friends (x : annuletlaw17_Known) (v : Value) : Upd x.enc 16 (#[v]) (annuletlaw17_Known.enc { x with Friends := v }) := Upd.cat [(x.Self).enc] (#[x.Friends]) (#[v]) [#[x.Cands], #[Value.int .i64 x.Half]] (by simp [szs, Idn.size]) (rfl)
theorem annuletlaw17_Known.g_Friends (x : annuletlaw17_Known) : x.enc[16]? = some (x.Friends) := (annuletlaw17_Known.s_Friends x).one
theorem annuletlaw17_Known.s_Cands (x : annuletlaw17_Known) : Sel x.enc 17 1 (#[x.Cands]) := Sel.cat [(x.Self).enc, #[x.Friends]] (#[x.Cands]) [#[Value.int .i64 x.Half]] (by simp [szs, Idn.size]) (rfl)
theorem annuletlaw17_Known.u_Cands (x : annuletlaw17_Known) (v : Value) : Upd x.enc 17 (#[v]) (annuletlaw17_Known.enc { x with Cands := v }) := Upd.cat [(x.Self).enc, #[x.Friends]] (#[x.Cands]) (#[v]) [#[Value.int .i64 x.Half]] (by simp [szs, Idn.size]) (rfl)
theorem annuletlaw17_Known.g_Cands (x : annuletlaw17_Known) : x.enc[17]? = some (x.Cands) := (annuletlaw17_Known.s_Cands x).one
theorem annuletlaw17_Known.s_Half (x : annuletlaw17_Known) : Sel x.enc 18 1 (#[Value.int .i64 x.Half]) := Sel.cat [(x.Self).enc, #[x.Friends], #[x.Cands]] (#[Value.int .i64 x.Half]) [] (by simp [szs, Idn.size]) (rfl)
theorem annuletlaw17_Known.u_Half (x : annuletlaw17_Known) (v : Int) : Upd x.enc 18 (#[Value.int .i64 v]) (annuletlaw17_Known.enc { x with Half := v }) := Upd.cat [(x.Self).enc, #[x.Friends], #[x.Cands]] (#[Value.int .i64 x.Half]) (#[Value.int .i64 v]) [] (by simp [szs, Idn.size]) (rfl)
theorem annuletlaw17_Known.g_Half (x : annuletlaw17_Known) : x.enc[18]? = some (Value.int .i64 x.Half) := (annuletlaw17_Known.s_Half x).one
def annuletlaw17_Known.zero : annuletlaw17_Known := ⟨Idn.zero, .slice none 0 0, .slice none 0 0, 0⟩

structure seek_Cand where
  ID : Idn
  Leg : Int
  N : Int
  P : api_Path
deriving DecidableEq
def seek_Cand.enc (x : seek_Cand) : Array Value := catA [(x.ID).enc, #[Value.int .i64 x.Leg], #[Value.int .i64 x.N], (x.P).enc]
theorem seek_Cand.size (x : seek_Cand) : x.enc.size = 35 := by rw [seek_Cand.enc, catA_size]; simp [szs, Idn.size, api_Path.size]
theorem seek_Cand.one (x : seek_Cand) : Ones x.enc := Ones.cat (by
  intro p hp
  simp only [List.mem_cons, List.not_mem_nil, or_false] at hp
  rcases hp with rfl | rfl | rfl | rfl
  · exact Idn.one _
  · exact Ones.single rfl
  · exact Ones.single rfl
  · exact api_Path.one _)
theorem seek_Cand.pl (x : seek_Cand) : Pl x.enc := Pl.cat (by
  intro p hp
  simp only [List.mem_cons, List.not_mem_nil, or_false] at hp
  rcases hp with rfl | rfl | rfl | rfl
  · exact Idn.pl _
  · exact Pl.single rfl
  · exact Pl.single rfl
  · exact api_Path.pl _)
theorem seek_Cand.s_ID (x : seek_Cand) : Sel x.enc 0 16 ((x.ID).enc) := Sel.cat [] ((x.ID).enc) [#[Value.int .i64 x.Leg], #[Value.int .i64 x.N], (x.P).enc] (rfl) (Idn.size _)
theorem seek_Cand.u_ID (x : seek_Cand) (v : Idn) : Upd x.enc 0 (v.enc) (seek_Cand.enc { x with ID := v }) := Upd.cat [] ((x.ID).enc) (v.enc) [#[Value.int .i64 x.Leg], #[Value.int .i64 x.N], (x.P).enc] (rfl) (by simp [Idn.size])
theorem seek_Cand.s_Leg (x : seek_Cand) : Sel x.enc 16 1 (#[Value.int .i64 x.Leg]) := Sel.cat [(x.ID).enc] (#[Value.int .i64 x.Leg]) [#[Value.int .i64 x.N], (x.P).enc] (by simp [szs, Idn.size]) (rfl)
theorem seek_Cand.u_Leg (x : seek_Cand) (v : Int) : Upd x.enc 16 (#[Value.int .i64 v]) (seek_Cand.enc { x with Leg := v }) := Upd.cat [(x.ID).enc] (#[Value.int .i64 x.Leg]) (#[Value.int .i64 v]) [#[Value.int .i64 x.N], (x.P).enc] (by simp [szs, Idn.size]) (rfl)
theorem seek_Cand.g_Leg (x : seek_Cand) : x.enc[16]? = some (Value.int .i64 x.Leg) := (seek_Cand.s_Leg x).one
theorem seek_Cand.s_N (x : seek_Cand) : Sel x.enc 17 1 (#[Value.int .i64 x.N]) := Sel.cat [(x.ID).enc, #[Value.int .i64 x.Leg]] (#[Value.int .i64 x.N]) [(x.P).enc] (by simp [szs, Idn.size]) (rfl)
theorem seek_Cand.u_N (x : seek_Cand) (v : Int) : Upd x.enc 17 (#[Value.int .i64 v]) (seek_Cand.enc { x with N := v }) := Upd.cat [(x.ID).enc, #[Value.int .i64 x.Leg]] (#[Value.int .i64 x.N]) (#[Value.int .i64 v]) [(x.P).enc] (by simp [szs, Idn.size]) (rfl)
theorem seek_Cand.g_N (x : seek_Cand) : x.enc[17]? = some (Value.int .i64 x.N) := (seek_Cand.s_N x).one
theorem seek_Cand.s_P (x : seek_Cand) : Sel x.enc 18 17 ((x.P).enc) := Sel.cat [(x.ID).enc, #[Value.int .i64 x.Leg], #[Value.int .i64 x.N]] ((x.P).enc) [] (by simp [szs, Idn.size]) (api_Path.size _)
theorem seek_Cand.u_P (x : seek_Cand) (v : api_Path) : Upd x.enc 18 (v.enc) (seek_Cand.enc { x with P := v }) := Upd.cat [(x.ID).enc, #[Value.int .i64 x.Leg], #[Value.int .i64 x.N]] ((x.P).enc) (v.enc) [] (by simp [szs, Idn.size]) (by simp [api_Path.size])
theorem seek_Cand.s_P_Who (x : seek_Cand) : Sel x.enc 18 16 (x.P.Who.enc) := (seek_Cand.s_P x).trans (api_Path.s_Who _)
theorem seek_Cand.u_P_Who (x : seek_Cand) (v : Idn) : Upd x.enc 18 (v.enc) (seek_Cand.enc { x with P := { x.P with Who := v } }) := Upd.trans (o := 18) (o' := 0) (seek_Cand.s_P x) (api_Path.u_Who _ v) (by simp [Idn.size]) (seek_Cand.u_P x _)
theorem seek_Cand.g_P_N (x : seek_Cand) : x.enc[34]? = some (Value.int .i64 x.P.N) := (seek_Cand.s_P x).get (api_Path.g_N _)
theorem seek_Cand.u_P_N (x : seek_Cand) (v : Int) : Upd x.enc 34 (#[Value.int .i64 v]) (seek_Cand.enc { x with P := { x.P with N := v } }) := Upd.trans (o := 18) (o' := 16) (seek_Cand.s_P x) (api_Path.u_N _ v) (by simp) (seek_Cand.u_P x _)
def seek_Cand.zero : seek_Cand := ⟨Idn.zero, 0, 0, api_Path.zero⟩
theorem seek_Cand.inj {x y : seek_Cand} (h : x.enc = y.enc) : x = y := by
  have h0 := Idn.enc_inj (((seek_Cand.s_ID x).2.symm.trans (by rw [h])).trans (seek_Cand.s_ID y).2)
  have h1 := Option.some.inj (((seek_Cand.g_Leg x).symm.trans (by rw [h])).trans (seek_Cand.g_Leg y))
  simp only [Value.int.injEq, true_and] at h1
  have h2 := Option.some.inj (((seek_Cand.g_N x).symm.trans (by rw [h])).trans (seek_Cand.g_N y))
  simp only [Value.int.injEq, true_and] at h2
  have h3 := api_Path.inj (((seek_Cand.s_P x).2.symm.trans (by rw [h])).trans (seek_Cand.s_P y).2)
  cases x; cases y; simp only at h0 h1 h2 h3; subst h0 h1 h2 h3; rfl

structure annuletref17_Cand where
  ID : Idn
  Leg : Int
  N : Int
  P : api_Path
deriving DecidableEq
def annuletref17_Cand.enc (x : annuletref17_Cand) : Array Value := catA [(x.ID).enc, #[Value.int .i64 x.Leg], #[Value.int .i64 x.N], (x.P).enc]
theorem annuletref17_Cand.size (x : annuletref17_Cand) : x.enc.size = 35 := by rw [annuletref17_Cand.enc, catA_size]; simp [szs, Idn.size, api_Path.size]
theorem annuletref17_Cand.one (x : annuletref17_Cand) : Ones x.enc := Ones.cat (by
  intro p hp
  simp only [List.mem_cons, List.not_mem_nil, or_false] at hp
  rcases hp with rfl | rfl | rfl | rfl
  · exact Idn.one _
  · exact Ones.single rfl
  · exact Ones.single rfl
  · exact api_Path.one _)
theorem annuletref17_Cand.pl (x : annuletref17_Cand) : Pl x.enc := Pl.cat (by
  intro p hp
  simp only [List.mem_cons, List.not_mem_nil, or_false] at hp
  rcases hp with rfl | rfl | rfl | rfl
  · exact Idn.pl _
  · exact Pl.single rfl
  · exact Pl.single rfl
  · exact api_Path.pl _)
theorem annuletref17_Cand.s_ID (x : annuletref17_Cand) : Sel x.enc 0 16 ((x.ID).enc) := Sel.cat [] ((x.ID).enc) [#[Value.int .i64 x.Leg], #[Value.int .i64 x.N], (x.P).enc] (rfl) (Idn.size _)
theorem annuletref17_Cand.u_ID (x : annuletref17_Cand) (v : Idn) : Upd x.enc 0 (v.enc) (annuletref17_Cand.enc { x with ID := v }) := Upd.cat [] ((x.ID).enc) (v.enc) [#[Value.int .i64 x.Leg], #[Value.int .i64 x.N], (x.P).enc] (rfl) (by simp [Idn.size])
theorem annuletref17_Cand.s_Leg (x : annuletref17_Cand) : Sel x.enc 16 1 (#[Value.int .i64 x.Leg]) := Sel.cat [(x.ID).enc] (#[Value.int .i64 x.Leg]) [#[Value.int .i64 x.N], (x.P).enc] (by simp [szs, Idn.size]) (rfl)
theorem annuletref17_Cand.u_Leg (x : annuletref17_Cand) (v : Int) : Upd x.enc 16 (#[Value.int .i64 v]) (annuletref17_Cand.enc { x with Leg := v }) := Upd.cat [(x.ID).enc] (#[Value.int .i64 x.Leg]) (#[Value.int .i64 v]) [#[Value.int .i64 x.N], (x.P).enc] (by simp [szs, Idn.size]) (rfl)
theorem annuletref17_Cand.g_Leg (x : annuletref17_Cand) : x.enc[16]? = some (Value.int .i64 x.Leg) := (annuletref17_Cand.s_Leg x).one
theorem annuletref17_Cand.s_N (x : annuletref17_Cand) : Sel x.enc 17 1 (#[Value.int .i64 x.N]) := Sel.cat [(x.ID).enc, #[Value.int .i64 x.Leg]] (#[Value.int .i64 x.N]) [(x.P).enc] (by simp [szs, Idn.size]) (rfl)
theorem annuletref17_Cand.u_N (x : annuletref17_Cand) (v : Int) : Upd x.enc 17 (#[Value.int .i64 v]) (annuletref17_Cand.enc { x with N := v }) := Upd.cat [(x.ID).enc, #[Value.int .i64 x.Leg]] (#[Value.int .i64 x.N]) (#[Value.int .i64 v]) [(x.P).enc] (by simp [szs, Idn.size]) (rfl)
theorem annuletref17_Cand.g_N (x : annuletref17_Cand) : x.enc[17]? = some (Value.int .i64 x.N) := (annuletref17_Cand.s_N x).one
theorem annuletref17_Cand.s_P (x : annuletref17_Cand) : Sel x.enc 18 17 ((x.P).enc) := Sel.cat [(x.ID).enc, #[Value.int .i64 x.Leg], #[Value.int .i64 x.N]] ((x.P).enc) [] (by simp [szs, Idn.size]) (api_Path.size _)
theorem annuletref17_Cand.u_P (x : annuletref17_Cand) (v : api_Path) : Upd x.enc 18 (v.enc) (annuletref17_Cand.enc { x with P := v }) := Upd.cat [(x.ID).enc, #[Value.int .i64 x.Leg], #[Value.int .i64 x.N]] ((x.P).enc) (v.enc) [] (by simp [szs, Idn.size]) (by simp [api_Path.size])
theorem annuletref17_Cand.s_P_Who (x : annuletref17_Cand) : Sel x.enc 18 16 (x.P.Who.enc) := (annuletref17_Cand.s_P x).trans (api_Path.s_Who _)
theorem annuletref17_Cand.u_P_Who (x : annuletref17_Cand) (v : Idn) : Upd x.enc 18 (v.enc) (annuletref17_Cand.enc { x with P := { x.P with Who := v } }) := Upd.trans (o := 18) (o' := 0) (annuletref17_Cand.s_P x) (api_Path.u_Who _ v) (by simp [Idn.size]) (annuletref17_Cand.u_P x _)
theorem annuletref17_Cand.g_P_N (x : annuletref17_Cand) : x.enc[34]? = some (Value.int .i64 x.P.N) := (annuletref17_Cand.s_P x).get (api_Path.g_N _)
theorem annuletref17_Cand.u_P_N (x : annuletref17_Cand) (v : Int) : Upd x.enc 34 (#[Value.int .i64 v]) (annuletref17_Cand.enc { x with P := { x.P with N := v } }) := Upd.trans (o := 18) (o' := 16) (annuletref17_Cand.s_P x) (api_Path.u_N _ v) (by simp) (annuletref17_Cand.u_P x _)
def annuletref17_Cand.zero : annuletref17_Cand := ⟨Idn.zero, 0, 0, api_Path.zero⟩
theorem annuletref17_Cand.inj {x y : annuletref17_Cand} (h : x.enc = y.enc) : x = y := by
  have h0 := Idn.enc_inj (((annuletref17_Cand.s_ID x).2.symm.trans (by rw [h])).trans (annuletref17_Cand.s_ID y).2)
  have h1 := Option.some.inj (((annuletref17_Cand.g_Leg x).symm.trans (by rw [h])).trans (annuletref17_Cand.g_Leg y))
  simp only [Value.int.injEq, true_and] at h1
  have h2 := Option.some.inj (((annuletref17_Cand.g_N x).symm.trans (by rw [h])).trans (annuletref17_Cand.g_N y))
  simp only [Value.int.injEq, true_and] at h2
  have h3 := api_Path.inj (((annuletref17_Cand.s_P x).2.symm.trans (by rw [h])).trans (annuletref17_Cand.s_P y).2)
  cases x; cases y; simp only at h0 h1 h2 h3; subst h0 h1 h2 h3; rfl

structure annuletref05_Disk where
  B : Value
  Power : Int
  Done : Int
def annuletref05_Disk.enc (x : annuletref05_Disk) : Array Value := catA [#[x.B], #[Value.int .i64 x.Power], #[Value.int .i64 x.Done]]
theorem annuletref05_Disk.size (x : annuletref05_Disk) : x.enc.size = 3 := by rw [annuletref05_Disk.enc, catA_size]; simp [szs]
theorem annuletref05_Disk.one (x : annuletref05_Disk) (h0 : x.B.oneCell' = true) : Ones x.enc := Ones.cat (by
  intro p hp
  simp only [List.mem_cons, List.not_mem_nil, or_false] at hp
  rcases hp with rfl | rfl | rfl
  · exact Ones.single h0
  · exact Ones.single rfl
  · exact Ones.single rfl)
theorem annuletref05_Disk.s_B (x : annuletref05_Disk) : Sel x.enc 0 1 (#[x.B]) := Sel.cat [] (#[x.B]) [#[Value.int .i64 x.Power], #[Value.int .i64 x.Done]] (rfl) (rfl)
theorem annuletref05_Disk.u_B (x : annuletref05_Disk) (v : Value) : Upd x.enc 0 (#[v]) (annuletref05_Disk.enc { x with B := v }) := Upd.cat [] (#[x.B]) (#[v]) [#[Value.int .i64 x.Power], #[Value.int .i64 x.Done]] (rfl) (rfl)
theorem annuletref05_Disk.g_B (x : annuletref05_Disk) : x.enc[0]? = some (x.B) := (annuletref05_Disk.s_B x).one
theorem annuletref05_Disk.s_Power (x : annuletref05_Disk) : Sel x.enc 1 1 (#[Value.int .i64 x.Power]) := Sel.cat [#[x.B]] (#[Value.int .i64 x.Power]) [#[Value.int .i64 x.Done]] (by simp [szs]) (rfl)
theorem annuletref05_Disk.u_Power (x : annuletref05_Disk) (v : Int) : Upd x.enc 1 (#[Value.int .i64 v]) (annuletref05_Disk.enc { x with Power := v }) := Upd.cat [#[x.B]] (#[Value.int .i64 x.Power]) (#[Value.int .i64 v]) [#[Value.int .i64 x.Done]] (by simp [szs]) (rfl)
theorem annuletref05_Disk.g_Power (x : annuletref05_Disk) : x.enc[1]? = some (Value.int .i64 x.Power) := (annuletref05_Disk.s_Power x).one
theorem annuletref05_Disk.s_Done (x : annuletref05_Disk) : Sel x.enc 2 1 (#[Value.int .i64 x.Done]) := Sel.cat [#[x.B], #[Value.int .i64 x.Power]] (#[Value.int .i64 x.Done]) [] (by simp [szs]) (rfl)
theorem annuletref05_Disk.u_Done (x : annuletref05_Disk) (v : Int) : Upd x.enc 2 (#[Value.int .i64 v]) (annuletref05_Disk.enc { x with Done := v }) := Upd.cat [#[x.B], #[Value.int .i64 x.Power]] (#[Value.int .i64 x.Done]) (#[Value.int .i64 v]) [] (by simp [szs]) (rfl)
theorem annuletref05_Disk.g_Done (x : annuletref05_Disk) : x.enc[2]? = some (Value.int .i64 x.Done) := (annuletref05_Disk.s_Done x).one
def annuletref05_Disk.zero : annuletref05_Disk := ⟨.slice none 0 0, 0, 0⟩

structure annuletref18_Vault where
  Log : Value
  L : Value
  Inc : Int
def annuletref18_Vault.enc (x : annuletref18_Vault) : Array Value := catA [#[x.Log], #[x.L], #[Value.int .i64 x.Inc]]
theorem annuletref18_Vault.size (x : annuletref18_Vault) : x.enc.size = 3 := by rw [annuletref18_Vault.enc, catA_size]; simp [szs]
theorem annuletref18_Vault.one (x : annuletref18_Vault) (h0 : x.Log.oneCell' = true) (h1 : x.L.oneCell' = true) : Ones x.enc := Ones.cat (by
  intro p hp
  simp only [List.mem_cons, List.not_mem_nil, or_false] at hp
  rcases hp with rfl | rfl | rfl
  · exact Ones.single h0
  · exact Ones.single h1
  · exact Ones.single rfl)
theorem annuletref18_Vault.s_Log (x : annuletref18_Vault) : Sel x.enc 0 1 (#[x.Log]) := Sel.cat [] (#[x.Log]) [#[x.L], #[Value.int .i64 x.Inc]] (rfl) (rfl)
theorem annuletref18_Vault.u_Log (x : annuletref18_Vault) (v : Value) : Upd x.enc 0 (#[v]) (annuletref18_Vault.enc { x with Log := v }) := Upd.cat [] (#[x.Log]) (#[v]) [#[x.L], #[Value.int .i64 x.Inc]] (rfl) (rfl)
theorem annuletref18_Vault.g_Log (x : annuletref18_Vault) : x.enc[0]? = some (x.Log) := (annuletref18_Vault.s_Log x).one
theorem annuletref18_Vault.s_L (x : annuletref18_Vault) : Sel x.enc 1 1 (#[x.L]) := Sel.cat [#[x.Log]] (#[x.L]) [#[Value.int .i64 x.Inc]] (by simp [szs]) (rfl)
theorem annuletref18_Vault.u_L (x : annuletref18_Vault) (v : Value) : Upd x.enc 1 (#[v]) (annuletref18_Vault.enc { x with L := v }) := Upd.cat [#[x.Log]] (#[x.L]) (#[v]) [#[Value.int .i64 x.Inc]] (by simp [szs]) (rfl)
theorem annuletref18_Vault.g_L (x : annuletref18_Vault) : x.enc[1]? = some (x.L) := (annuletref18_Vault.s_L x).one
theorem annuletref18_Vault.s_Inc (x : annuletref18_Vault) : Sel x.enc 2 1 (#[Value.int .i64 x.Inc]) := Sel.cat [#[x.Log], #[x.L]] (#[Value.int .i64 x.Inc]) [] (by simp [szs]) (rfl)
theorem annuletref18_Vault.u_Inc (x : annuletref18_Vault) (v : Int) : Upd x.enc 2 (#[Value.int .i64 v]) (annuletref18_Vault.enc { x with Inc := v }) := Upd.cat [#[x.Log], #[x.L]] (#[Value.int .i64 x.Inc]) (#[Value.int .i64 v]) [] (by simp [szs]) (rfl)
theorem annuletref18_Vault.g_Inc (x : annuletref18_Vault) : x.enc[2]? = some (Value.int .i64 x.Inc) := (annuletref18_Vault.s_Inc x).one
def annuletref18_Vault.zero : annuletref18_Vault := ⟨.pointer none, .slice none 0 0, 0⟩

structure annuletlaw18_Op where
  Kind : Int
  N : Int
  X : api_Item
def annuletlaw18_Op.enc (x : annuletlaw18_Op) : Array Value := catA [#[Value.int .i64 x.Kind], #[Value.int .i64 x.N], (x.X).enc]
theorem annuletlaw18_Op.size (x : annuletlaw18_Op) : x.enc.size = 36 := by rw [annuletlaw18_Op.enc, catA_size]; simp [szs, api_Item.size]
theorem annuletlaw18_Op.one (x : annuletlaw18_Op) (h0 : x.X.Val.oneCell' = true) : Ones x.enc := Ones.cat (by
  intro p hp
  simp only [List.mem_cons, List.not_mem_nil, or_false] at hp
  rcases hp with rfl | rfl | rfl
  · exact Ones.single rfl
  · exact Ones.single rfl
  · exact api_Item.one _ h0)
theorem annuletlaw18_Op.s_Kind (x : annuletlaw18_Op) : Sel x.enc 0 1 (#[Value.int .i64 x.Kind]) := Sel.cat [] (#[Value.int .i64 x.Kind]) [#[Value.int .i64 x.N], (x.X).enc] (rfl) (rfl)
theorem annuletlaw18_Op.u_Kind (x : annuletlaw18_Op) (v : Int) : Upd x.enc 0 (#[Value.int .i64 v]) (annuletlaw18_Op.enc { x with Kind := v }) := Upd.cat [] (#[Value.int .i64 x.Kind]) (#[Value.int .i64 v]) [#[Value.int .i64 x.N], (x.X).enc] (rfl) (rfl)
theorem annuletlaw18_Op.g_Kind (x : annuletlaw18_Op) : x.enc[0]? = some (Value.int .i64 x.Kind) := (annuletlaw18_Op.s_Kind x).one
theorem annuletlaw18_Op.s_N (x : annuletlaw18_Op) : Sel x.enc 1 1 (#[Value.int .i64 x.N]) := Sel.cat [#[Value.int .i64 x.Kind]] (#[Value.int .i64 x.N]) [(x.X).enc] (by simp [szs]) (rfl)
theorem annuletlaw18_Op.u_N (x : annuletlaw18_Op) (v : Int) : Upd x.enc 1 (#[Value.int .i64 v]) (annuletlaw18_Op.enc { x with N := v }) := Upd.cat [#[Value.int .i64 x.Kind]] (#[Value.int .i64 x.N]) (#[Value.int .i64 v]) [(x.X).enc] (by simp [szs]) (rfl)
theorem annuletlaw18_Op.g_N (x : annuletlaw18_Op) : x.enc[1]? = some (Value.int .i64 x.N) := (annuletlaw18_Op.s_N x).one
theorem annuletlaw18_Op.s_X (x : annuletlaw18_Op) : Sel x.enc 2 34 ((x.X).enc) := Sel.cat [#[Value.int .i64 x.Kind], #[Value.int .i64 x.N]] ((x.X).enc) [] (by simp [szs]) (api_Item.size _)
theorem annuletlaw18_Op.u_X (x : annuletlaw18_Op) (v : api_Item) : Upd x.enc 2 (v.enc) (annuletlaw18_Op.enc { x with X := v }) := Upd.cat [#[Value.int .i64 x.Kind], #[Value.int .i64 x.N]] ((x.X).enc) (v.enc) [] (by simp [szs]) (by simp [api_Item.size])
theorem annuletlaw18_Op.s_X_Key (x : annuletlaw18_Op) : Sel x.enc 2 16 (x.X.Key.enc) := (annuletlaw18_Op.s_X x).trans (api_Item.s_Key _)
theorem annuletlaw18_Op.u_X_Key (x : annuletlaw18_Op) (v : Idn) : Upd x.enc 2 (v.enc) (annuletlaw18_Op.enc { x with X := { x.X with Key := v } }) := Upd.trans (o := 2) (o' := 0) (annuletlaw18_Op.s_X x) (api_Item.u_Key _ v) (by simp [Idn.size]) (annuletlaw18_Op.u_X x _)
theorem annuletlaw18_Op.s_X_Ver (x : annuletlaw18_Op) : Sel x.enc 18 17 (x.X.Ver.enc) := (annuletlaw18_Op.s_X x).trans (api_Item.s_Ver _)
theorem annuletlaw18_Op.u_X_Ver (x : annuletlaw18_Op) (v : api_Ver) : Upd x.enc 18 (v.enc) (annuletlaw18_Op.enc { x with X := { x.X with Ver := v } }) := Upd.trans (o := 2) (o' := 16) (annuletlaw18_Op.s_X x) (api_Item.u_Ver _ v) (by simp [api_Ver.size]) (annuletlaw18_Op.u_X x _)
theorem annuletlaw18_Op.g_X_Ver_N (x : annuletlaw18_Op) : x.enc[18]? = some (Value.int .i64 x.X.Ver.N) := (annuletlaw18_Op.s_X x).get (api_Item.g_Ver_N _)
theorem annuletlaw18_Op.u_X_Ver_N (x : annuletlaw18_Op) (v : Int) : Upd x.enc 18 (#[Value.int .i64 v]) (annuletlaw18_Op.enc { x with X := { x.X with Ver := { x.X.Ver with N := v } } }) := Upd.trans (o := 2) (o' := 16) (annuletlaw18_Op.s_X x) (api_Item.u_Ver_N _ v) (by simp) (annuletlaw18_Op.u_X x _)
theorem annuletlaw18_Op.s_X_Ver_Who (x : annuletlaw18_Op) : Sel x.enc 19 16 (x.X.Ver.Who.enc) := (annuletlaw18_Op.s_X x).trans (api_Item.s_Ver_Who _)
theorem annuletlaw18_Op.u_X_Ver_Who (x : annuletlaw18_Op) (v : Idn) : Upd x.enc 19 (v.enc) (annuletlaw18_Op.enc { x with X := { x.X with Ver := { x.X.Ver with Who := v } } }) := Upd.trans (o := 2) (o' := 17) (annuletlaw18_Op.s_X x) (api_Item.u_Ver_Who _ v) (by simp [Idn.size]) (annuletlaw18_Op.u_X x _)
theorem annuletlaw18_Op.g_X_Val (x : annuletlaw18_Op) : x.enc[35]? = some (x.X.Val) := (annuletlaw18_Op.s_X x).get (api_Item.g_Val _)
theorem annuletlaw18_Op.u_X_Val (x : annuletlaw18_Op) (v : Value) : Upd x.enc 35 (#[v]) (annuletlaw18_Op.enc { x with X := { x.X with Val := v } }) := Upd.trans (o := 2) (o' := 33) (annuletlaw18_Op.s_X x) (api_Item.u_Val _ v) (by simp) (annuletlaw18_Op.u_X x _)
def annuletlaw18_Op.zero : annuletlaw18_Op := ⟨0, 0, api_Item.zero⟩

structure annuletref06_Log where
  D : Value
  Gen : Int
  Used : Int
  N : Int
  Down : Bool
def annuletref06_Log.enc (x : annuletref06_Log) : Array Value := catA [#[x.D], #[Value.int .u64 x.Gen], #[Value.int .i64 x.Used], #[Value.int .i64 x.N], #[Value.bool x.Down]]
theorem annuletref06_Log.size (x : annuletref06_Log) : x.enc.size = 5 := by rw [annuletref06_Log.enc, catA_size]; simp [szs]
theorem annuletref06_Log.one (x : annuletref06_Log) (h0 : x.D.oneCell' = true) : Ones x.enc := Ones.cat (by
  intro p hp
  simp only [List.mem_cons, List.not_mem_nil, or_false] at hp
  rcases hp with rfl | rfl | rfl | rfl | rfl
  · exact Ones.single h0
  · exact Ones.single rfl
  · exact Ones.single rfl
  · exact Ones.single rfl
  · exact Ones.single rfl)
theorem annuletref06_Log.s_D (x : annuletref06_Log) : Sel x.enc 0 1 (#[x.D]) := Sel.cat [] (#[x.D]) [#[Value.int .u64 x.Gen], #[Value.int .i64 x.Used], #[Value.int .i64 x.N], #[Value.bool x.Down]] (rfl) (rfl)
theorem annuletref06_Log.u_D (x : annuletref06_Log) (v : Value) : Upd x.enc 0 (#[v]) (annuletref06_Log.enc { x with D := v }) := Upd.cat [] (#[x.D]) (#[v]) [#[Value.int .u64 x.Gen], #[Value.int .i64 x.Used], #[Value.int .i64 x.N], #[Value.bool x.Down]] (rfl) (rfl)
theorem annuletref06_Log.g_D (x : annuletref06_Log) : x.enc[0]? = some (x.D) := (annuletref06_Log.s_D x).one
theorem annuletref06_Log.s_Gen (x : annuletref06_Log) : Sel x.enc 1 1 (#[Value.int .u64 x.Gen]) := Sel.cat [#[x.D]] (#[Value.int .u64 x.Gen]) [#[Value.int .i64 x.Used], #[Value.int .i64 x.N], #[Value.bool x.Down]] (by simp [szs]) (rfl)
theorem annuletref06_Log.u_Gen (x : annuletref06_Log) (v : Int) : Upd x.enc 1 (#[Value.int .u64 v]) (annuletref06_Log.enc { x with Gen := v }) := Upd.cat [#[x.D]] (#[Value.int .u64 x.Gen]) (#[Value.int .u64 v]) [#[Value.int .i64 x.Used], #[Value.int .i64 x.N], #[Value.bool x.Down]] (by simp [szs]) (rfl)
theorem annuletref06_Log.g_Gen (x : annuletref06_Log) : x.enc[1]? = some (Value.int .u64 x.Gen) := (annuletref06_Log.s_Gen x).one
theorem annuletref06_Log.s_Used (x : annuletref06_Log) : Sel x.enc 2 1 (#[Value.int .i64 x.Used]) := Sel.cat [#[x.D], #[Value.int .u64 x.Gen]] (#[Value.int .i64 x.Used]) [#[Value.int .i64 x.N], #[Value.bool x.Down]] (by simp [szs]) (rfl)
theorem annuletref06_Log.u_Used (x : annuletref06_Log) (v : Int) : Upd x.enc 2 (#[Value.int .i64 v]) (annuletref06_Log.enc { x with Used := v }) := Upd.cat [#[x.D], #[Value.int .u64 x.Gen]] (#[Value.int .i64 x.Used]) (#[Value.int .i64 v]) [#[Value.int .i64 x.N], #[Value.bool x.Down]] (by simp [szs]) (rfl)
theorem annuletref06_Log.g_Used (x : annuletref06_Log) : x.enc[2]? = some (Value.int .i64 x.Used) := (annuletref06_Log.s_Used x).one
theorem annuletref06_Log.s_N (x : annuletref06_Log) : Sel x.enc 3 1 (#[Value.int .i64 x.N]) := Sel.cat [#[x.D], #[Value.int .u64 x.Gen], #[Value.int .i64 x.Used]] (#[Value.int .i64 x.N]) [#[Value.bool x.Down]] (by simp [szs]) (rfl)
theorem annuletref06_Log.u_N (x : annuletref06_Log) (v : Int) : Upd x.enc 3 (#[Value.int .i64 v]) (annuletref06_Log.enc { x with N := v }) := Upd.cat [#[x.D], #[Value.int .u64 x.Gen], #[Value.int .i64 x.Used]] (#[Value.int .i64 x.N]) (#[Value.int .i64 v]) [#[Value.bool x.Down]] (by simp [szs]) (rfl)
theorem annuletref06_Log.g_N (x : annuletref06_Log) : x.enc[3]? = some (Value.int .i64 x.N) := (annuletref06_Log.s_N x).one
theorem annuletref06_Log.s_Down (x : annuletref06_Log) : Sel x.enc 4 1 (#[Value.bool x.Down]) := Sel.cat [#[x.D], #[Value.int .u64 x.Gen], #[Value.int .i64 x.Used], #[Value.int .i64 x.N]] (#[Value.bool x.Down]) [] (by simp [szs]) (rfl)
theorem annuletref06_Log.u_Down (x : annuletref06_Log) (v : Bool) : Upd x.enc 4 (#[Value.bool v]) (annuletref06_Log.enc { x with Down := v }) := Upd.cat [#[x.D], #[Value.int .u64 x.Gen], #[Value.int .i64 x.Used], #[Value.int .i64 x.N]] (#[Value.bool x.Down]) (#[Value.bool v]) [] (by simp [szs]) (rfl)
theorem annuletref06_Log.g_Down (x : annuletref06_Log) : x.enc[4]? = some (Value.bool x.Down) := (annuletref06_Log.s_Down x).one
def annuletref06_Log.zero : annuletref06_Log := ⟨.pointer none, 0, 0, 0, false⟩

structure vault_Vault where
  log : Value
  m : Value
  inc : Int
def vault_Vault.enc (x : vault_Vault) : Array Value := catA [#[x.log], #[x.m], #[Value.int .i64 x.inc]]
theorem vault_Vault.size (x : vault_Vault) : x.enc.size = 3 := by rw [vault_Vault.enc, catA_size]; simp [szs]
theorem vault_Vault.one (x : vault_Vault) (h0 : x.log.oneCell' = true) (h1 : x.m.oneCell' = true) : Ones x.enc := Ones.cat (by
  intro p hp
  simp only [List.mem_cons, List.not_mem_nil, or_false] at hp
  rcases hp with rfl | rfl | rfl
  · exact Ones.single h0
  · exact Ones.single h1
  · exact Ones.single rfl)
theorem vault_Vault.s_log (x : vault_Vault) : Sel x.enc 0 1 (#[x.log]) := Sel.cat [] (#[x.log]) [#[x.m], #[Value.int .i64 x.inc]] (rfl) (rfl)
theorem vault_Vault.u_log (x : vault_Vault) (v : Value) : Upd x.enc 0 (#[v]) (vault_Vault.enc { x with log := v }) := Upd.cat [] (#[x.log]) (#[v]) [#[x.m], #[Value.int .i64 x.inc]] (rfl) (rfl)
theorem vault_Vault.g_log (x : vault_Vault) : x.enc[0]? = some (x.log) := (vault_Vault.s_log x).one
theorem vault_Vault.s_m (x : vault_Vault) : Sel x.enc 1 1 (#[x.m]) := Sel.cat [#[x.log]] (#[x.m]) [#[Value.int .i64 x.inc]] (by simp [szs]) (rfl)
theorem vault_Vault.u_m (x : vault_Vault) (v : Value) : Upd x.enc 1 (#[v]) (vault_Vault.enc { x with m := v }) := Upd.cat [#[x.log]] (#[x.m]) (#[v]) [#[Value.int .i64 x.inc]] (by simp [szs]) (rfl)
theorem vault_Vault.g_m (x : vault_Vault) : x.enc[1]? = some (x.m) := (vault_Vault.s_m x).one
theorem vault_Vault.s_inc (x : vault_Vault) : Sel x.enc 2 1 (#[Value.int .i64 x.inc]) := Sel.cat [#[x.log], #[x.m]] (#[Value.int .i64 x.inc]) [] (by simp [szs]) (rfl)
theorem vault_Vault.u_inc (x : vault_Vault) (v : Int) : Upd x.enc 2 (#[Value.int .i64 v]) (vault_Vault.enc { x with inc := v }) := Upd.cat [#[x.log], #[x.m]] (#[Value.int .i64 x.inc]) (#[Value.int .i64 v]) [] (by simp [szs]) (rfl)
theorem vault_Vault.g_inc (x : vault_Vault) : x.enc[2]? = some (Value.int .i64 x.inc) := (vault_Vault.s_inc x).one
def vault_Vault.zero : vault_Vault := ⟨.pointer none, .map none, 0⟩

structure disk_Disk where
  sectors : Value
  power : Int
  done : Int
def disk_Disk.enc (x : disk_Disk) : Array Value := catA [#[x.sectors], #[Value.int .i64 x.power], #[Value.int .i64 x.done]]
theorem disk_Disk.size (x : disk_Disk) : x.enc.size = 3 := by rw [disk_Disk.enc, catA_size]; simp [szs]
theorem disk_Disk.one (x : disk_Disk) (h0 : x.sectors.oneCell' = true) : Ones x.enc := Ones.cat (by
  intro p hp
  simp only [List.mem_cons, List.not_mem_nil, or_false] at hp
  rcases hp with rfl | rfl | rfl
  · exact Ones.single h0
  · exact Ones.single rfl
  · exact Ones.single rfl)
theorem disk_Disk.s_sectors (x : disk_Disk) : Sel x.enc 0 1 (#[x.sectors]) := Sel.cat [] (#[x.sectors]) [#[Value.int .i64 x.power], #[Value.int .i64 x.done]] (rfl) (rfl)
theorem disk_Disk.u_sectors (x : disk_Disk) (v : Value) : Upd x.enc 0 (#[v]) (disk_Disk.enc { x with sectors := v }) := Upd.cat [] (#[x.sectors]) (#[v]) [#[Value.int .i64 x.power], #[Value.int .i64 x.done]] (rfl) (rfl)
theorem disk_Disk.g_sectors (x : disk_Disk) : x.enc[0]? = some (x.sectors) := (disk_Disk.s_sectors x).one
theorem disk_Disk.s_power (x : disk_Disk) : Sel x.enc 1 1 (#[Value.int .i64 x.power]) := Sel.cat [#[x.sectors]] (#[Value.int .i64 x.power]) [#[Value.int .i64 x.done]] (by simp [szs]) (rfl)
theorem disk_Disk.u_power (x : disk_Disk) (v : Int) : Upd x.enc 1 (#[Value.int .i64 v]) (disk_Disk.enc { x with power := v }) := Upd.cat [#[x.sectors]] (#[Value.int .i64 x.power]) (#[Value.int .i64 v]) [#[Value.int .i64 x.done]] (by simp [szs]) (rfl)
theorem disk_Disk.g_power (x : disk_Disk) : x.enc[1]? = some (Value.int .i64 x.power) := (disk_Disk.s_power x).one
theorem disk_Disk.s_done (x : disk_Disk) : Sel x.enc 2 1 (#[Value.int .i64 x.done]) := Sel.cat [#[x.sectors], #[Value.int .i64 x.power]] (#[Value.int .i64 x.done]) [] (by simp [szs]) (rfl)
theorem disk_Disk.u_done (x : disk_Disk) (v : Int) : Upd x.enc 2 (#[Value.int .i64 v]) (disk_Disk.enc { x with done := v }) := Upd.cat [#[x.sectors], #[Value.int .i64 x.power]] (#[Value.int .i64 x.done]) (#[Value.int .i64 v]) [] (by simp [szs]) (rfl)
theorem disk_Disk.g_done (x : disk_Disk) : x.enc[2]? = some (Value.int .i64 x.done) := (disk_Disk.s_done x).one
def disk_Disk.zero : disk_Disk := ⟨.slice none 0 0, 0, 0⟩

structure slate_Log where
  d : Value
  gen : Int
  used : Int
  n : Int
  down : Bool
def slate_Log.enc (x : slate_Log) : Array Value := catA [#[x.d], #[Value.int .u64 x.gen], #[Value.int .i64 x.used], #[Value.int .i64 x.n], #[Value.bool x.down]]
theorem slate_Log.size (x : slate_Log) : x.enc.size = 5 := by rw [slate_Log.enc, catA_size]; simp [szs]
theorem slate_Log.one (x : slate_Log) (h0 : x.d.oneCell' = true) : Ones x.enc := Ones.cat (by
  intro p hp
  simp only [List.mem_cons, List.not_mem_nil, or_false] at hp
  rcases hp with rfl | rfl | rfl | rfl | rfl
  · exact Ones.single h0
  · exact Ones.single rfl
  · exact Ones.single rfl
  · exact Ones.single rfl
  · exact Ones.single rfl)
theorem slate_Log.s_d (x : slate_Log) : Sel x.enc 0 1 (#[x.d]) := Sel.cat [] (#[x.d]) [#[Value.int .u64 x.gen], #[Value.int .i64 x.used], #[Value.int .i64 x.n], #[Value.bool x.down]] (rfl) (rfl)
theorem slate_Log.u_d (x : slate_Log) (v : Value) : Upd x.enc 0 (#[v]) (slate_Log.enc { x with d := v }) := Upd.cat [] (#[x.d]) (#[v]) [#[Value.int .u64 x.gen], #[Value.int .i64 x.used], #[Value.int .i64 x.n], #[Value.bool x.down]] (rfl) (rfl)
theorem slate_Log.g_d (x : slate_Log) : x.enc[0]? = some (x.d) := (slate_Log.s_d x).one
theorem slate_Log.s_gen (x : slate_Log) : Sel x.enc 1 1 (#[Value.int .u64 x.gen]) := Sel.cat [#[x.d]] (#[Value.int .u64 x.gen]) [#[Value.int .i64 x.used], #[Value.int .i64 x.n], #[Value.bool x.down]] (by simp [szs]) (rfl)
theorem slate_Log.u_gen (x : slate_Log) (v : Int) : Upd x.enc 1 (#[Value.int .u64 v]) (slate_Log.enc { x with gen := v }) := Upd.cat [#[x.d]] (#[Value.int .u64 x.gen]) (#[Value.int .u64 v]) [#[Value.int .i64 x.used], #[Value.int .i64 x.n], #[Value.bool x.down]] (by simp [szs]) (rfl)
theorem slate_Log.g_gen (x : slate_Log) : x.enc[1]? = some (Value.int .u64 x.gen) := (slate_Log.s_gen x).one
theorem slate_Log.s_used (x : slate_Log) : Sel x.enc 2 1 (#[Value.int .i64 x.used]) := Sel.cat [#[x.d], #[Value.int .u64 x.gen]] (#[Value.int .i64 x.used]) [#[Value.int .i64 x.n], #[Value.bool x.down]] (by simp [szs]) (rfl)
theorem slate_Log.u_used (x : slate_Log) (v : Int) : Upd x.enc 2 (#[Value.int .i64 v]) (slate_Log.enc { x with used := v }) := Upd.cat [#[x.d], #[Value.int .u64 x.gen]] (#[Value.int .i64 x.used]) (#[Value.int .i64 v]) [#[Value.int .i64 x.n], #[Value.bool x.down]] (by simp [szs]) (rfl)
theorem slate_Log.g_used (x : slate_Log) : x.enc[2]? = some (Value.int .i64 x.used) := (slate_Log.s_used x).one
theorem slate_Log.s_n (x : slate_Log) : Sel x.enc 3 1 (#[Value.int .i64 x.n]) := Sel.cat [#[x.d], #[Value.int .u64 x.gen], #[Value.int .i64 x.used]] (#[Value.int .i64 x.n]) [#[Value.bool x.down]] (by simp [szs]) (rfl)
theorem slate_Log.u_n (x : slate_Log) (v : Int) : Upd x.enc 3 (#[Value.int .i64 v]) (slate_Log.enc { x with n := v }) := Upd.cat [#[x.d], #[Value.int .u64 x.gen], #[Value.int .i64 x.used]] (#[Value.int .i64 x.n]) (#[Value.int .i64 v]) [#[Value.bool x.down]] (by simp [szs]) (rfl)
theorem slate_Log.g_n (x : slate_Log) : x.enc[3]? = some (Value.int .i64 x.n) := (slate_Log.s_n x).one
theorem slate_Log.s_down (x : slate_Log) : Sel x.enc 4 1 (#[Value.bool x.down]) := Sel.cat [#[x.d], #[Value.int .u64 x.gen], #[Value.int .i64 x.used], #[Value.int .i64 x.n]] (#[Value.bool x.down]) [] (by simp [szs]) (rfl)
theorem slate_Log.u_down (x : slate_Log) (v : Bool) : Upd x.enc 4 (#[Value.bool v]) (slate_Log.enc { x with down := v }) := Upd.cat [#[x.d], #[Value.int .u64 x.gen], #[Value.int .i64 x.used], #[Value.int .i64 x.n]] (#[Value.bool x.down]) (#[Value.bool v]) [] (by simp [szs]) (rfl)
theorem slate_Log.g_down (x : slate_Log) : x.enc[4]? = some (Value.bool x.down) := (slate_Log.s_down x).one
def slate_Log.zero : slate_Log := ⟨.pointer none, 0, 0, 0, false⟩

end Go.Fx
