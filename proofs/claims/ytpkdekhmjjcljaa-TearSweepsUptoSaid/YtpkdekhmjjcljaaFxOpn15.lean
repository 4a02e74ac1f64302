/- What comes in of the flat types of this translation, opened: printed by opens.py. -/
import Derived.Test.YtpkdekhmjjcljaaFxNm15
import Derived.Test.YtpkdekhmjjcljaaFxOp
namespace Go.Fx

theorem O_api_ID : Opn PG 24 Idn.enc 16 := .idn (e := 5) Go.Proofs.Try.underlying24 Go.Proofs.Try.underlying5 (by kernel_rfl) (by kernel_rfl)
theorem O_int64 : Opn PG 2 (fun z : Int => #[Value.int .i64 z]) 1 := .int Go.Proofs.Try.underlying2 (by kernel_rfl)
theorem S_api_Path : strB PG 26 = some [(0, 24), (16, 2)] := by kernel_rfl
theorem C_api_Path : PG.cellsOf 26 = 17 := by kernel_rfl
theorem O_api_Path : Opn PG 26 api_Path.enc 17 := ⟨C_api_Path, fun _ _ _ _ _ _ _ cs x h => by
  obtain ⟨hl, n, xs, _, hf⟩ := trod_fields S_api_Path h
  rw [C_api_Path] at hl
  obtain ⟨y0, e0⟩ := O_api_ID.fld (hf 0 _ _ rfl)
  obtain ⟨y1, e1⟩ := O_int64.fld (hf 1 _ _ rfl)
  exact ⟨⟨y0, y1⟩, From.all (.cons e0 rfl (.cons e1 rfl (.nil hl)))⟩⟩
theorem O_int : Opn PG 3 (fun z : Int => #[Value.int .i64 z]) 1 := .int Go.Proofs.Try.underlying3 (by kernel_rfl)
theorem S_api_Entry : strB PG 39 = some [(0, 26), (17, 24), (33, 24), (49, 3), (50, 3)] := by kernel_rfl
theorem C_api_Entry : PG.cellsOf 39 = 51 := by kernel_rfl
theorem O_api_Entry : Opn PG 39 api_Entry.enc 51 := ⟨C_api_Entry, fun _ _ _ _ _ _ _ cs x h => by
  obtain ⟨hl, n, xs, _, hf⟩ := trod_fields S_api_Entry h
  rw [C_api_Entry] at hl
  obtain ⟨y0, e0⟩ := O_api_Path.fld (hf 0 _ _ rfl)
  obtain ⟨y1, e1⟩ := O_api_ID.fld (hf 1 _ _ rfl)
  obtain ⟨y2, e2⟩ := O_api_ID.fld (hf 2 _ _ rfl)
  obtain ⟨y3, e3⟩ := O_int.fld (hf 3 _ _ rfl)
  obtain ⟨y4, e4⟩ := O_int.fld (hf 4 _ _ rfl)
  exact ⟨⟨y0, y1, y2, y3, y4⟩, From.all (.cons e0 rfl (.cons e1 rfl (.cons e2 rfl (.cons e3 rfl (.cons e4 rfl (.nil hl))))))⟩⟩
theorem S_api_Num : strB PG 43 = some [(0, 2), (1, 2)] := by kernel_rfl
theorem C_api_Num : PG.cellsOf 43 = 2 := by kernel_rfl
theorem O_api_Num : Opn PG 43 api_Num.enc 2 := ⟨C_api_Num, fun _ _ _ _ _ _ _ cs x h => by
  obtain ⟨hl, n, xs, _, hf⟩ := trod_fields S_api_Num h
  rw [C_api_Num] at hl
  obtain ⟨y0, e0⟩ := O_int64.fld (hf 0 _ _ rfl)
  obtain ⟨y1, e1⟩ := O_int64.fld (hf 1 _ _ rfl)
  exact ⟨⟨y0, y1⟩, From.all (.cons e0 rfl (.cons e1 rfl (.nil hl)))⟩⟩
theorem S_api_Ver : strB PG 46 = some [(0, 2), (1, 24)] := by kernel_rfl
theorem C_api_Ver : PG.cellsOf 46 = 17 := by kernel_rfl
theorem O_api_Ver : Opn PG 46 api_Ver.enc 17 := ⟨C_api_Ver, fun _ _ _ _ _ _ _ cs x h => by
  obtain ⟨hl, n, xs, _, hf⟩ := trod_fields S_api_Ver h
  rw [C_api_Ver] at hl
  obtain ⟨y0, e0⟩ := O_int64.fld (hf 0 _ _ rfl)
  obtain ⟨y1, e1⟩ := O_api_ID.fld (hf 1 _ _ rfl)
  exact ⟨⟨y0, y1⟩, From.all (.cons e0 rfl (.cons e1 rfl (.nil hl)))⟩⟩
theorem S_frame_Drop : strB PG 91 = some [(0, 26)] := by kernel_rfl
theorem C_frame_Drop : PG.cellsOf 91 = 17 := by kernel_rfl
theorem O_frame_Drop : Opn PG 91 frame_Drop.enc 17 := ⟨C_frame_Drop, fun _ _ _ _ _ _ _ cs x h => by
  obtain ⟨hl, n, xs, _, hf⟩ := trod_fields S_frame_Drop h
  rw [C_frame_Drop] at hl
  obtain ⟨y0, e0⟩ := O_api_Path.fld (hf 0 _ _ rfl)
  exact ⟨⟨y0⟩, From.all (.cons e0 rfl (.nil hl))⟩⟩
theorem S_frame_Hello : strB PG 104 = some [(0, 43), (2, 43), (4, 24)] := by kernel_rfl
theorem C_frame_Hello : PG.cellsOf 104 = 20 := by kernel_rfl
theorem O_frame_Hello : Opn PG 104 frame_Hello.enc 20 := ⟨C_frame_Hello, fun _ _ _ _ _ _ _ cs x h => by
  obtain ⟨hl, n, xs, _, hf⟩ := trod_fields S_frame_Hello h
  rw [C_frame_Hello] at hl
  obtain ⟨y0, e0⟩ := O_api_Num.fld (hf 0 _ _ rfl)
  obtain ⟨y1, e1⟩ := O_api_Num.fld (hf 1 _ _ rfl)
  obtain ⟨y2, e2⟩ := O_api_ID.fld (hf 2 _ _ rfl)
  exact ⟨⟨y0, y1, y2⟩, From.all (.cons e0 rfl (.cons e1 rfl (.cons e2 rfl (.nil hl))))⟩⟩
theorem S_frame_Ack : strB PG 108 = some [(0, 43), (2, 43), (4, 2)] := by kernel_rfl
theorem C_frame_Ack : PG.cellsOf 108 = 5 := by kernel_rfl
theorem O_frame_Ack : Opn PG 108 frame_Ack.enc 5 := ⟨C_frame_Ack, fun _ _ _ _ _ _ _ cs x h => by
  obtain ⟨hl, n, xs, _, hf⟩ := trod_fields S_frame_Ack h
  rw [C_frame_Ack] at hl
  obtain ⟨y0, e0⟩ := O_api_Num.fld (hf 0 _ _ rfl)
  obtain ⟨y1, e1⟩ := O_api_Num.fld (hf 1 _ _ rfl)
  obtain ⟨y2, e2⟩ := O_int64.fld (hf 2 _ _ rfl)
  exact ⟨⟨y0, y1, y2⟩, From.all (.cons e0 rfl (.cons e1 rfl (.cons e2 rfl (.nil hl))))⟩⟩
theorem O_bool : Opn PG 4 (fun z : Bool => #[Value.bool z]) 1 := .bool Go.Proofs.Try.underlying4 (by kernel_rfl)
theorem S_frame_Part : strB PG 112 = some [(0, 26), (17, 4)] := by kernel_rfl
theorem C_frame_Part : PG.cellsOf 112 = 18 := by kernel_rfl
theorem O_frame_Part : Opn PG 112 frame_Part.enc 18 := ⟨C_frame_Part, fun _ _ _ _ _ _ _ cs x h => by
  obtain ⟨hl, n, xs, _, hf⟩ := trod_fields S_frame_Part h
  rw [C_frame_Part] at hl
  obtain ⟨y0, e0⟩ := O_api_Path.fld (hf 0 _ _ rfl)
  obtain ⟨y1, e1⟩ := O_bool.fld (hf 1 _ _ rfl)
  exact ⟨⟨y0, y1⟩, From.all (.cons e0 rfl (.cons e1 rfl (.nil hl)))⟩⟩
theorem S_frame_Advert : strB PG 118 = some [(0, 24), (16, 2)] := by kernel_rfl
theorem C_frame_Advert : PG.cellsOf 118 = 17 := by kernel_rfl
theorem O_frame_Advert : Opn PG 118 frame_Advert.enc 17 := ⟨C_frame_Advert, fun _ _ _ _ _ _ _ cs x h => by
  obtain ⟨hl, n, xs, _, hf⟩ := trod_fields S_frame_Advert h
  rw [C_frame_Advert] at hl
  obtain ⟨y0, e0⟩ := O_api_ID.fld (hf 0 _ _ rfl)
  obtain ⟨y1, e1⟩ := O_int64.fld (hf 1 _ _ rfl)
  exact ⟨⟨y0, y1⟩, From.all (.cons e0 rfl (.cons e1 rfl (.nil hl)))⟩⟩
theorem S_frame_Got : strB PG 125 = some [(0, 26), (17, 4), (18, 24), (34, 46)] := by kernel_rfl
theorem C_frame_Got : PG.cellsOf 125 = 51 := by kernel_rfl
theorem O_frame_Got : Opn PG 125 frame_Got.enc 51 := ⟨C_frame_Got, fun _ _ _ _ _ _ _ cs x h => by
  obtain ⟨hl, n, xs, _, hf⟩ := trod_fields S_frame_Got h
  rw [C_frame_Got] at hl
  obtain ⟨y0, e0⟩ := O_api_Path.fld (hf 0 _ _ rfl)
  obtain ⟨y1, e1⟩ := O_bool.fld (hf 1 _ _ rfl)
  obtain ⟨y2, e2⟩ := O_api_ID.fld (hf 2 _ _ rfl)
  obtain ⟨y3, e3⟩ := O_api_Ver.fld (hf 3 _ _ rfl)
  exact ⟨⟨y0, y1, y2, y3⟩, From.all (.cons e0 rfl (.cons e1 rfl (.cons e2 rfl (.cons e3 rfl (.nil hl)))))⟩⟩
end Go.Fx
