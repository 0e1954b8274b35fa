/- Texts of ours, part 5: our library and contracts of functions. -/
import Derived.Test.YtgdfnfffibhkjaaGreatDoorB04
import Derived.Test.YtgdfnfffibhkjaaGreatDoorProg
set_option linter.unusedSimpArgs false
set_option linter.unusedVariables false
set_option maxRecDepth 100000
set_option maxHeartbeats 40000000
set_option linter.unusedSectionVars false
section
namespace Go.Av
open Go Go.Proofs Go.Proofs.Tryz
abbrev tA (t:Nat) (k:TK) (s b:Nat):Prop:=tk prog t=k∧yW prog t=some s∧zeF prog t=some b
abbrev tB (t:Nat) (k:TK) (s b:Nat) (a:Bool) (z:List AV):Prop:=tA t k s b∧gy prog t=some a∧tz prog t=some z
abbrev tF (t f o y:Nat):Prop:=I1 prog t f=some o∧Rd prog t f=some y
abbrev tI (t:Nat):Prop:=tfi prog t=true
@[go_sem] theorem t0:tA 0 .other 1 0∧gy prog 0=some false∧tB 1 .other 1 8 false [(.v .nilFunc)]∧tB 2 (.int .i64) 1 8 false [(.int 0)]∧Jd prog 2=some (.int .i64 0)∧tB 3 (.int .i64) 1 8 false [(.int 0)]∧Jd prog 3=some (.int .i64 0)∧tB 4 .bool 1 1 false [(.bool false)]∧Jd prog 4=some (.bool false)∧tB 5 (.int .u8) 1 1 false [(.v (.int .u8 0))]∧Jd prog 5=some (.int .u8 0)∧tB 6 (.int .u8) 1 1 false [(.v (.int .u8 0))]∧Jd prog 6=some (.int .u8 0)∧tB 7 .str 4 24 true [(.int 0),(.int 0),(.bool false),(.v (.int .u8 0))]∧tF 7 0 0 2∧tF 7 1 1 3∧tF 7 2 2 4∧tF 7 3 3 6∧tI 7∧r9 prog 7=some [false,false,true,false]:=Wo
@[go_sem] theorem t1:tB 8 .str 4 24 true [(.int 0),(.int 0),(.bool false),(.v (.int .u8 0))]∧tF 8 0 0 2∧tF 8 1 1 3∧tF 8 2 2 4∧tF 8 3 3 6∧tI 8∧r9 prog 8=some [false,false,true,false]∧tB 9 .string 1 16 false [(.v (.string ⟨⟨[]⟩⟩))]∧Jd prog 9=some (.string ⟨⟨[]⟩⟩)∧tB 10 .string 1 16 false [(.v (.string ⟨⟨[]⟩⟩))]∧Jd prog 10=some (.string ⟨⟨[]⟩⟩)∧tB 11 .string 1 16 false [(.v (.string ⟨⟨[]⟩⟩))]∧Jd prog 11=some (.string ⟨⟨[]⟩⟩)∧tB 12 (.int .u64) 1 8 false [(.v (.int .u64 0))]∧Jd prog 12=some (.int .u64 0)∧tB 20 .other 1 16 false [(.v .nilIface)]∧tB 21 (.int .i32) 1 4 false [(.v (.int .i32 0))]∧Jd prog 21=some (.int .i32 0)∧tB 22 (.sl 5) 1 24 false [.nils]∧tB 23 (.arr 2 22) 2 48 true [.nils, .nils]:=Wo
@[go_sem] theorem t2:tB 24 (.sl 152) 1 24 false [.nils]∧tB 25 (.arr 6 5) 6 6 true [(.v (.int .u8 0)),(.v (.int .u8 0)),(.v (.int .u8 0)),(.v (.int .u8 0)),(.v (.int .u8 0)),(.v (.int .u8 0))]∧tB 27 .str 12 88 true [(.v (.int .u8 0)),(.v (.int .u8 0)),(.v (.int .u8 0)), .nils, .nils, .nils,(.v (.int .u8 0)),(.v (.int .u8 0)),(.v (.int .u8 0)),(.v (.int .u8 0)),(.v (.int .u8 0)),(.v (.int .u8 0))]∧tF 27 0 0 5∧tF 27 1 1 5∧tF 27 2 2 5∧tF 27 3 3 23∧tF 27 4 5 24∧tF 27 5 6 25∧tI 27∧tB 28 (.arr 4 5) 4 4 true [(.v (.int .u8 0)),(.v (.int .u8 0)),(.v (.int .u8 0)),(.v (.int .u8 0))]∧tB 30 .str 18 18 true [(.v (.int .u8 0)),(.v (.int .u8 0)),(.v (.int .u8 0)),(.v (.int .u8 0)),(.v (.int .u8 0)),(.v (.int .u8 0)),(.v (.int .u8 0)),(.v (.int .u8 0)),(.v (.int .u8 0)),(.v (.int .u8 0)),(.v (.int .u8 0)),(.v (.int .u8 0)),(.v (.int .u8 0)),(.v (.int .u8 0)),(.v (.int .u8 0)),(.v (.int .u8 0)),(.v (.int .u8 0)),(.v (.int .u8 0))]∧tF 30 0 0 25∧tF 30 1 6 25∧tF 30 2 12 28∧tF 30 3 16 5∧tF 30 4 17 5∧tI 30∧tB 32 .str 31 136 true [(.v (.int .u8 0)),(.v (.int .u8 0)),(.v (.int .u8 0)), .nils, .nils, .nils,(.v (.int .u8 0)),(.v (.int .u8 0)),(.v (.int .u8 0)),(.v (.int .u8 0)),(.v (.int .u8 0)),(.v (.int .u8 0)),(.v (.int .u8 0)),(.v (.int .u8 0)),(.v (.int .u8 0)),(.v (.int .u8 0)),(.v (.int .u8 0)),(.v (.int .u8 0)),(.v (.int .u8 0)),(.v (.int .u8 0)),(.v (.int .u8 0)),(.v (.int .u8 0)),(.v (.int .u8 0)),(.v (.int .u8 0)),(.v (.int .u8 0)),(.v (.int .u8 0)),(.v (.int .u8 0)),(.v (.int .u8 0)),(.v (.int .u8 0)),(.v (.int .u8 0)), .nils]∧tF 32 0 0 27:=Wo
@[go_sem] theorem t3:tF 32 1 12 30∧tF 32 2 30 22∧tI 32∧tB 34 (.sl 35) 1 24 false [.nils]∧tB 35 (.sl 3) 1 24 false [.nils]∧tB 37 .str 3 56 true [(.int 0), .nils, .nils]∧tF 37 0 0 3∧tF 37 1 1 34∧tF 37 2 2 35∧tI 37∧tB 38 (.sl 150) 1 24 false [.nils]∧tB 39 (.sl 154) 1 24 false [.nils]∧tB 41 .str 9 136 true [(.int 0), .nils, .nils, .nils,(.int 0),(.bool false), .nils,(.int 0),(.int 0)]∧tF 41 0 0 37∧tF 41 1 3 38∧tF 41 2 4 3∧tF 41 3 5 4∧tF 41 4 6 39∧tF 41 5 7 3∧tF 41 6 8 3:=Wo
@[go_sem] theorem t4:tI 41∧tB 42 (.arr 2 35) 2 48 true [.nils, .nils]∧tB 44 .str 5 88 true [.nils, .nils, .nils,(.int 0),(.int 0)]∧tF 44 0 0 35∧tF 44 1 1 42∧tF 44 2 3 3∧tF 44 3 4 3∧tI 44∧tA 45 .other 1 0∧gy prog 45=some false∧tB 48 (.sl 50) 1 24 false [.nils]∧tB 50 .str 2 48 true [.nils, .nils]∧tF 50 0 0 48∧tF 50 1 1 48∧tI 50∧tB 51 (.int .i64) 1 8 false [(.int 0)]∧Jd prog 51=some (.int .i64 0)∧tB 53 .str 3 56 true [.nils, .nils,(.int 0)]∧tF 53 0 0 50∧tF 53 1 2 51:=Wo
@[go_sem] theorem t5:tI 53∧tB 56 .str 2 48 true [.nils, .nils]∧tF 56 0 0 34∧tF 56 1 1 34∧tI 56∧tB 58 .str 3 56 true [.nils, .nils,(.int 0)]∧tF 58 0 0 56∧tF 58 1 2 51∧tI 58∧tB 64 .str 6 96 true [.nils, .nils, .nils,(.int 0),(.int 0),(.int 0)]∧tF 64 0 0 44∧tF 64 1 5 51∧tI 64∧tB 67 .str 2 16 true [(.int 0),(.int 0)]∧tF 67 0 0 3∧tF 67 1 1 51∧tI 67∧r9 prog 67=some [false,false]∧tB 69 .other 1 8 false [(.v .nilFunc)]∧tB 71 .str 2 16 true [(.int 0),(.int 0)]:=Wo
@[go_sem] theorem t6:tF 71 0 0 3∧tF 71 1 1 3∧tI 71∧r9 prog 71=some [false,false]∧tB 73 .str 3 24 true [(.int 0),(.int 0),(.int 0)]∧tF 73 0 0 71∧tF 73 1 2 51∧tI 73∧tB 81 (.sl 44) 1 24 false [.nils]∧tB 87 .str 4 80 true [.nils, .nils, .nils,(.bool false)]∧tF 87 0 0 81∧tF 87 1 1 34∧tF 87 2 2 34∧tF 87 3 3 4∧tI 87∧tB 92 .str 2 16 true [(.int 0),(.int 0)]∧tF 92 0 0 3∧tF 92 1 1 3∧tI 92∧r9 prog 92=some [false,false]:=Wo
@[go_sem] theorem t7:tB 94 (.sl 92) 1 24 false [.nils]∧tB 95 (.sl 94) 1 24 false [.nils]∧tA 100 .other 1 0∧gy prog 100=some false∧tA 106 .other 1 0∧gy prog 106=some false∧tA 110 .other 1 0∧gy prog 110=some false∧tB 112 (.arr 2 3) 2 16 true [(.int 0),(.int 0)]∧tA 113 .other 1 0∧gy prog 113=some false∧tA 117 .other 1 0∧gy prog 117=some false∧tB 121 .str 2 16 true [(.int 0),(.int 0)]∧tF 121 0 0 3∧tF 121 1 1 3∧tI 121∧r9 prog 121=some [false,false]∧tB 123 .str 2 32 true [.nils,(.int 0)]∧tF 123 0 0 81:=Wo
@[go_sem] theorem t8:tF 123 1 1 51∧tI 123∧tB 126 .str 2 16 true [(.int 0),(.int 0)]∧tF 126 0 0 3∧tF 126 1 1 3∧tI 126∧r9 prog 126=some [false,false]∧tB 127 (.sl 126) 1 24 false [.nils]∧tB 129 .str 3 56 true [.nils, .nils,(.int 0)]∧tF 129 0 0 127∧tF 129 1 1 35∧tF 129 2 2 51∧tI 129∧tB 131 (.arr 4 3) 4 32 true [(.int 0),(.int 0),(.int 0),(.int 0)]∧tB 133 (.ptr 190) 1 8 false [(.v (.pointer .none))]∧tB 135 (.ptr 202) 1 8 false [(.v (.pointer .none))]∧tB 138 .other 1 8 false [(.v .nilFunc)]∧tB 142 (.sl 145) 1 24 false [.nils]∧tB 145 .str 6 96 true [.nils, .nils, .nils,(.int 0),(.int 0),(.bool false)]∧tF 145 0 0 44:=Wo
@[go_sem] theorem t9:tF 145 1 5 4∧tI 145∧tB 148 (.sl 9) 1 24 false [.nils]∧tB 150 .str 3 48 true [(.v (.string ⟨⟨[]⟩⟩)), .nils,(.bool false)]∧tF 150 0 0 9∧tF 150 1 1 95∧tF 150 2 2 4∧tI 150∧tB 152 (.arr 3 5) 3 3 true [(.v (.int .u8 0)),(.v (.int .u8 0)),(.v (.int .u8 0))]∧tB 154 .str 4 32 true [(.int 0),(.int 0),(.int 0),(.int 0)]∧tF 154 0 0 3∧tF 154 1 1 3∧tF 154 2 2 3∧tF 154 3 3 3∧tI 154∧r9 prog 154=some [false,false,false,false]∧tA 155 .other 1 0∧gy prog 155=some false∧tB 157 (.sl 4) 1 24 false [.nils]∧tB 162 .str 3 56 true [.nils, .nils,(.bool false)]:=Wo
@[go_sem] theorem t10:tF 162 0 0 50∧tF 162 1 2 4∧tI 162∧tA 164 .other 1 0∧gy prog 164=some false∧tA 169 .other 1 0∧gy prog 169=some false∧tB 172 (.ptr 3) 1 8 false [(.v (.pointer .none))]∧tA 177 .other 1 0∧gy prog 177=some false∧tA 183 .other 1 0∧gy prog 183=some false∧tB 187 (.map 9 135) 1 8 false [(.v (.map .none))]∧tB 188 (.map 207 4) 1 8 false [(.v (.map .none))]∧tB 190 .str 3 24 true [(.v (.map .none)),(.v (.map .none)),(.v (.map .none))]∧tF 190 0 0 187∧tF 190 1 1 188∧tF 190 2 2 187∧tI 190∧tB 191 (.sl 135) 1 24 false [.nils]:=Wo
@[go_sem] theorem t11:tB 193 (.ptr 195) 1 8 false [(.v (.pointer .none))]∧tB 195 .str 2 32 true [(.v (.pointer .none)), .nils]∧tF 195 0 0 193∧tF 195 1 1 22∧tI 195∧tB 197 .other 1 16 false [(.v .nilIface)]∧tA 199 .other 1 0∧gy prog 199=some false∧tB 202 .str 3 64 true [(.v (.string ⟨⟨[]⟩⟩)), .nils, .nils]∧tF 202 0 0 9∧tF 202 1 1 191∧tF 202 2 2 191∧tI 202∧tB 203 .other 1 8 false [(.v .nilFunc)]∧tA 205 .other 1 0∧gy prog 205=some false∧tB 207 .str 2 32 true [(.v (.string ⟨⟨[]⟩⟩)),(.v (.string ⟨⟨[]⟩⟩))]∧tF 207 0 0 9∧tF 207 1 1 9∧tI 207:=Wo
@[go_sem] theorem t12:tA 208 .other 1 0∧gy prog 208=some false∧tB 209 .other 1 8 false [(.v .nilFunc)]∧tA 211 .other 1 0∧gy prog 211=some false∧tB 216 .str 2 16 true [(.int 0),(.int 0)]∧tF 216 0 0 3∧tF 216 1 1 3∧tI 216∧r9 prog 216=some [false,false]∧tA 218 .other 1 0∧gy prog 218=some false∧tB 220 .other 1 8 false [(.v .nilFunc)]∧tA 221 .other 1 0∧gy prog 221=some false∧tB 227 .other 1 8 false [(.v .nilFunc)]∧tB 230 (.map 9 3) 1 8 false [(.v (.map .none))]∧tB 231 (.ptr 34) 1 8 false [(.v (.pointer .none))]∧tB 232 (.arr 2 231) 2 16 true [(.v (.pointer .none)),(.v (.pointer .none))]∧tA 233 .other 1 0:=Wo
@[go_sem] theorem t13:gy prog 233=some false∧tB 234 .other 1 8 false [(.v .nilFunc)]∧tB 236 .other 1 8 false [(.v .nilFunc)]∧tB 238 (.arr 2 48) 2 48 true [.nils, .nils]∧tB 239 (.sl 245) 1 24 false [.nils]∧tB 243 (.sl 304) 1 24 false [.nils]∧tB 245 .str 2 32 true [.nils,(.int 0)]∧tF 245 0 0 243∧tF 245 1 1 3∧tI 245∧tB 247 .other 1 8 false [(.v .nilFunc)]∧tB 248 .other 1 8 false [(.v .nilFunc)]∧tB 250 (.map 9 4) 1 8 false [(.v (.map .none))]∧tA 251 .other 1 0∧gy prog 251=some false∧tB 253 .other 1 8 false [(.v .nilFunc)]∧tB 259 (.sl 262) 1 24 false [.nils]∧tB 262 .str 3 24 true [(.int 0),(.int 0),(.bool false)]∧tF 262 0 0 126∧tF 262 1 2 4:=Wo
@[go_sem] theorem t14:tI 262∧tB 265 (.ptr 5) 1 8 false [(.v (.pointer .none))]∧tB 270 .other 1 8 false [(.v .nilFunc)]∧tB 272 .other 1 8 false [(.v .nilFunc)]∧tB 273 (.sl 277) 1 24 false [.nils]∧tB 275 .str 2 32 true [.nils,(.int 0)]∧tF 275 0 0 273∧tF 275 1 1 51∧tI 275∧tB 277 (.sl 279) 1 24 false [.nils]∧tB 279 .str 8 112 true [.nils, .nils, .nils,(.int 0),(.int 0),(.int 0),(.int 0),(.bool false)]∧tF 279 0 0 44∧tF 279 1 5 3∧tF 279 2 6 3∧tF 279 3 7 4∧tI 279∧tB 284 .other 1 8 false [(.v .nilFunc)]∧tB 290 .other 1 8 false [(.v .nilFunc)]∧tB 295 (.arr 64 3) 64 512 true [(.int 0),(.int 0),(.int 0),(.int 0),(.int 0),(.int 0),(.int 0),(.int 0),(.int 0),(.int 0),(.int 0),(.int 0),(.int 0),(.int 0),(.int 0),(.int 0),(.int 0),(.int 0),(.int 0),(.int 0),(.int 0),(.int 0),(.int 0),(.int 0),(.int 0),(.int 0),(.int 0),(.int 0),(.int 0),(.int 0),(.int 0),(.int 0),(.int 0),(.int 0),(.int 0),(.int 0),(.int 0),(.int 0),(.int 0),(.int 0),(.int 0),(.int 0),(.int 0),(.int 0),(.int 0),(.int 0),(.int 0),(.int 0),(.int 0),(.int 0),(.int 0),(.int 0),(.int 0),(.int 0),(.int 0),(.int 0),(.int 0),(.int 0),(.int 0),(.int 0),(.int 0),(.int 0),(.int 0),(.int 0)]∧tB 296 (.sl 301) 1 24 false [.nils]:=Wo
@[go_sem] theorem t15:tB 297 (.arr 2 296) 2 48 true [.nils, .nils]∧tB 299 .str 2 48 true [.nils, .nils]∧tF 299 0 0 297∧tI 299∧tB 301 (.sl 239) 1 24 false [.nils]∧tB 304 .str 3 24 true [(.int 0),(.int 0),(.int 0)]∧tF 304 0 0 3∧tF 304 1 1 3∧tF 304 2 2 3∧tI 304∧r9 prog 304=some [false,false,false]∧tB 307 .other 1 8 false [(.v .nilFunc)]∧tB 308 (.arr 4 307) 4 32 true [(.v .nilFunc),(.v .nilFunc),(.v .nilFunc),(.v .nilFunc)]∧tB 309 .other 1 8 false [(.v .nilFunc)]∧tA 310 .other 1 0∧gy prog 310=some false∧tB 315 .str 8 112 true [.nils, .nils, .nils,(.int 0),(.int 0),(.int 0),(.int 0),(.bool false)]∧tF 315 0 0 44∧tF 315 1 5 3∧tF 315 2 6 3:=Wo
@[go_sem] theorem t16:tF 315 3 7 4∧tI 315∧tB 317 .other 1 8 false [(.v .nilFunc)]∧tB 319 (.int .u64) 1 8 false [(.v (.int .u64 0))]∧Jd prog 319=some (.int .u64 0)∧tB 321 (.sl 121) 1 24 false [.nils]∧tA 322 .other 1 0∧gy prog 322=some false∧tB 326 .str 2 16 true [(.int 0),(.bool false)]∧tF 326 0 0 3∧tF 326 1 1 4∧tI 326∧r9 prog 326=some [false,true]∧tB 328 .other 1 8 false [(.v (.pointer .none))]∧tB 330 (.sl 191) 1 24 false [.nils]∧tB 336 .other 1 8 false [(.v .nilFunc)]∧tB 338 .str 2 24 true [(.v (.string ⟨⟨[]⟩⟩)),(.int 0)]∧tF 338 0 0 9∧tF 338 1 1 3∧tI 338:=Wo
@[go_sem] theorem t17:tA 339 .other 1 0∧gy prog 339=some false∧tB 341 .other 1 8 false [(.v .nilFunc)]∧tB 345 .other 1 8 false [(.v .nilFunc)]∧tB 349 .other 1 8 false [(.v .nilFunc)]∧tB 350 (.ptr 295) 1 8 false [(.v (.pointer .none))]∧tB 355 .other 1 8 false [(.v .nilFunc)]∧tB 357 .other 1 8 false [(.v .nilFunc)]∧tB 361 .str 9 136 true [(.int 0), .nils, .nils, .nils,(.int 0),(.bool false), .nils,(.int 0),(.int 0)]∧tF 361 0 0 41∧tI 361∧tB 365 (.int .i64) 1 8 false [(.int 0)]∧Jd prog 365=some (.int .i64 0)∧tA 366 .other 1 0∧gy prog 366=some false∧tB 372 (.int .u32) 1 4 false [(.v (.int .u32 0))]∧Jd prog 372=some (.int .u32 0)∧tB 374 (.int .u64) 1 8 false [(.v (.int .u64 0))]∧Jd prog 374=some (.int .u64 0)∧tB 379 (.arr 11 338) 22 264 true [(.v (.string ⟨⟨[]⟩⟩)),(.int 0),(.v (.string ⟨⟨[]⟩⟩)),(.int 0),(.v (.string ⟨⟨[]⟩⟩)),(.int 0),(.v (.string ⟨⟨[]⟩⟩)),(.int 0),(.v (.string ⟨⟨[]⟩⟩)),(.int 0),(.v (.string ⟨⟨[]⟩⟩)),(.int 0),(.v (.string ⟨⟨[]⟩⟩)),(.int 0),(.v (.string ⟨⟨[]⟩⟩)),(.int 0),(.v (.string ⟨⟨[]⟩⟩)),(.int 0),(.v (.string ⟨⟨[]⟩⟩)),(.int 0),(.v (.string ⟨⟨[]⟩⟩)),(.int 0)]:=Wo
@[go_sem] theorem t18:tB 384 .other 1 8 false [(.v .nilFunc)]∧tB 386 (.sl 315) 1 24 false [.nils]∧tB 389 (.map 4 3) 1 8 false [(.v (.map .none))]∧tB 395 (.int .u64) 1 8 false [(.v (.int .u64 0))]∧Jd prog 395=some (.int .u64 0)∧tB 401 .other 1 8 false [(.v .nilFunc)]∧tB 402 .other 1 8 false [(.v .nilFunc)]∧tB 404 (.arr 11 402) 11 88 true [(.v .nilFunc),(.v .nilFunc),(.v .nilFunc),(.v .nilFunc),(.v .nilFunc),(.v .nilFunc),(.v .nilFunc),(.v .nilFunc),(.v .nilFunc),(.v .nilFunc),(.v .nilFunc)]∧tB 414 (.ptr 395) 1 8 false [(.v (.pointer .none))]∧tB 416 (.sl 243) 1 24 false [.nils]∧tB 418 .other 1 8 false [(.v .nilFunc)]∧tB 419 .other 1 8 false [(.v .nilFunc)]∧tB 428 (.arr 24 5) 24 24 true [(.v (.int .u8 0)),(.v (.int .u8 0)),(.v (.int .u8 0)),(.v (.int .u8 0)),(.v (.int .u8 0)),(.v (.int .u8 0)),(.v (.int .u8 0)),(.v (.int .u8 0)),(.v (.int .u8 0)),(.v (.int .u8 0)),(.v (.int .u8 0)),(.v (.int .u8 0)),(.v (.int .u8 0)),(.v (.int .u8 0)),(.v (.int .u8 0)),(.v (.int .u8 0)),(.v (.int .u8 0)),(.v (.int .u8 0)),(.v (.int .u8 0)),(.v (.int .u8 0)),(.v (.int .u8 0)),(.v (.int .u8 0)),(.v (.int .u8 0)),(.v (.int .u8 0))]∧tA 430 .other 1 0∧gy prog 430=some false:=Wo
end Go.Av
end
section
open Go Go.Proofs
namespace Go.Av
def dR (n:Int):List AV:= [.int n]
def aS (l:List Int):AV:= .lst 1 (l.map dR)
def fu (l:List (List Int)):AV:= .lst 1 (l.map λ l=> [aS l])
structure kT where
 name:ByteArray
 progs:List (List (Int×Int))
 keep:Bool
 deriving Inhabited
structure ae where
 cells:Int
 next:List (List Int)
 turn:List Int
 kinds:List kT
 rights:Int
 must:Bool
 clauses:List (Int×Int×Int×Int)
 blocked:Int
 endless:Int
structure aa where
 at_:List Int
 h0:List Int
 h1:List Int
 rights:Int
 side:Int
 deriving DecidableEq
def dC (s:Int×Int):List AV:= [.int s.1, .int s.2]
def cH (k:kT):List AV:= [.v (.string k.name), .lst 1 (k.progs.map λ p=> [.lst 2 (p.map dC)]), .v (.bool k.keep)]
def cd (c:Int×Int×Int×Int):List AV:= [.int c.1, .int c.2.1, .int c.2.2.1, .int c.2.2.2]
def zbK (cells:Int) (next:List (List Int)) (turn:List Int):List AV:= [.int cells,fu next,aS turn]
def ai (g:ae):List AV:= [.int g.cells,fu g.next,aS g.turn, .lst 3 (g.kinds.map cH), .int g.rights, .v (.bool g.must), .lst 4 (g.clauses.map cd), .int g.blocked, .int g.endless]
def ak (p:aa):List AV:= [aS p.at_,aS p.h0,aS p.h1, .int p.rights, .int p.side]
attribute [go_sem] dR aS fu dC cH cd zbK ai ak
def kn (l:List Int):Prop:=l.length<=1099511627776
variable {l:List Int} {j n:Nat}
theorem S5 :(∀r ∈ l.map dR,∀c ∈ r,aN n c)=True:=by
 refine eq_true ?_;intro r hr c hc;obtain ⟨x, _,rfl⟩:=List.mem_map.1 hr;simp only [dR,List.mem_singleton] at hc;subst hc;exact .v _
theorem Lv :aN n (.lst 1 (l.map dR))=True:=by rw [jd,S5]
attribute [go_sem high] Lv

def dy (a b:Int):Int:=if a<b then -1 else if b<a then 1 else 0
theorem uA (a b:Int):aq Tryz.prog 59 [.int a, .int b] (.int (dy a b)):=by
 refine pF Tryz.func59 ?_;simp [go_sem];refine zg4 (λ h=> ?_) (λ h=> ?_)
 ·simp at h;simp [go_sem,dy,h]
 ·simp at h;simp [go_sem];refine zg4 (λ h2=> ?_) (λ h2=> ?_)
  ·simp at h2;simp [go_sem,dy,h2,show ¬a<b by omega]
  ·simp at h2;simp [go_sem,dy,show ¬b<a by omega,show ¬a<b by omega]
def kV:List Int->List Int->Int
 |x::a,y::b=>if x=y then kV a b else dy x y
 |a,b=>dy a.length b.length
theorem zqq (b:List Int):kV [] b=dy 0 b.length:=by cases b<;>rfl
theorem Gt (a:List Int):kV a []=dy a.length 0:=by cases a<;>rfl
theorem Du (a b:List Int) (ha:kn a) (hb:kn b):aq Tryz.prog 58 [aS a,aS b] (.int (kV a b)):=by
 refine pF Tryz.func58 ?_;unfold kn at ha hb;simp [go_sem];refine zg3 (zg5 (α:=Nat) (λ j=>⟨[(0,aS a),(1,aS b),(5, .int j)], [],0⟩)
  (λ d j=>j+d=a.length∧j<=b.length∧kV a b=kV (a.drop j) (b.drop j)) ?_ a.length 0 ?_) ?_ ?_
 ·rintro d j ⟨i1,i2,i3⟩ hrec;simp [go_sem];refine zg4 (λ hj=> ?_) (λ hj=> ?_)
  ·simp at hj;obtain ⟨hj1,hj2⟩:=hj;have hd1:a.drop j=ac a j::a.drop (j+1):=W6;have hd2:b.drop j=ac b j::b.drop (j+1):=W6;rw [hd1,hd2,kV] at i3;simp [go_sem];try ((with_reducible refine wZ ?_);(try simp [go_sem]))
   refine zhq hj1 λ _=> ?_;simp [go_sem,hj1];try ((with_reducible refine wZ ?_);(try simp [go_sem]))
   refine zhq hj2 λ _=> ?_;simp [go_sem,hj2];try ((with_reducible refine wZ ?_);(try simp [go_sem]))
   refine uU.mk Pi ?_;simp [go_sem];refine zg4 (λ he=> ?_) (λ he=> ?_)
   ·simp at he;rw [if_neg he] at i3;simp [go_sem];try ((with_reducible refine wZ ?_);(try simp [go_sem]))
    refine zhq hj1 λ _=> ?_;simp [go_sem,hj1];try ((with_reducible refine wZ ?_);(try simp [go_sem]))
    refine zhq hj2 λ _=> ?_;simp [go_sem,hj2];try ((with_reducible refine wZ ?_);(try simp [go_sem]))
    refine dP (uA _ _) ?_;simp [go_sem];try ((with_reducible refine wZ ?_);(try simp [go_sem]))
    refine uU.mk Pi ?_;simp [go_sem,i3]
   ·simp at he;rw [if_pos he] at i3;simp [go_sem];refine zhl ge λ _=> ?_;simp [go_sem];refine zg3 (hrec (d - 1) ge (j+1) ⟨ge,ge,i3⟩) ?_ gt;simp [go_sem,aj]
  ·simp at hj;simp [go_sem];refine aP (uA _ _) ?_;have:dy a.length b.length=kV a b:=by
    grind [dy,kV]
   simp [go_sem,this]
 ·simp
 ·simp [go_sem,aj]
 ·simp
theorem p7  (h:j<l.length):l.drop j=ac l j::l.drop (j+1):=W6
theorem Uc (a b:List Int) (ha:kn a) (hb:kn b):aq Tryz.prog 54 [aS a,aS b] (.v (.bool (decide (a=b)))):=by
 refine pF Tryz.func54 ?_;unfold kn at ha hb;simp [go_sem];refine zg4 (λ hl=> ?_) (λ hl=> ?_)
 ·simp at hl;have:decide (a=b)=false:=pi;rw [this];simp [go_sem]
 ·simp at hl;simp [go_sem];refine zg3 (zg5 (α:=Nat) (λ j=>⟨[(0,aS a),(1,aS b),(5, .int j)], [],0⟩)
   (λ d j=>j+d=a.length∧((a=b)↔(a.drop j=b.drop j))) ?_ a.length 0 ?_) ?_ ?_
  ·rintro d j ⟨i1,i3⟩ hrec;simp [go_sem];refine zg4 (λ hj=> ?_) (λ hj=> ?_)
   ·simp at hj;have hj2:j<b.length:=ge;rw [p7 hj,p7 hj2,List.cons.injEq] at i3;simp [go_sem];try ((with_reducible refine wZ ?_);(try simp [go_sem]))
    refine zhq hj λ _=> ?_;simp [go_sem,hj];try ((with_reducible refine wZ ?_);(try simp [go_sem]))
    refine zhq hj2 λ _=> ?_;simp [go_sem,hj2];try ((with_reducible refine wZ ?_);(try simp [go_sem]))
    refine uU.mk Pi ?_;simp [go_sem];refine zg4 (λ he=> ?_) (λ he=> ?_)
    ·simp at he;have:decide (a=b)=false:=pi;rw [this];simp [go_sem]
    ·simp at he;simp [go_sem];refine zhl ge λ _=> ?_;simp [go_sem];refine zg3 (hrec (d - 1) ge (j+1) ⟨ge,i3.trans ⟨λ h=>h.2,λ h=>⟨he,h⟩⟩⟩) ?_ gt;simp [go_sem,aj]
   ·simp at hj;rw [List.drop_eq_nil_of_le hj,List.drop_eq_nil_of_le ge] at i3;have:decide (a=b)=true:=pi;rw [this];simp [go_sem]
  ·simp
  ·simp [go_sem,aj]
  ·simp
def bH (p:aa):Prop:=kn p.at_∧kn p.h0∧kn p.h1
def bi (p q:aa):Int:=
 if kV p.at_ q.at_≠0 then kV p.at_ q.at_ else if kV p.h0 q.h0≠0 then kV p.h0 q.h0 else if kV p.h1 q.h1≠0 then kV p.h1 q.h1 else if dy p.rights q.rights≠0 then dy p.rights q.rights else dy p.side q.side
theorem fj (a b:aa) (ha:bH a) (hb:bH b):aq Tryz.prog 25 [.agg (ak a), .agg (ak b)] (.int (bi a b)):=by
 refine pF Tryz.func25 ?_;obtain ⟨a1,a2,a3⟩:=ha;obtain ⟨b1,b2,b3⟩:=hb;simp [go_sem];try ((with_reducible refine wZ ?_);(try simp [go_sem]))
 refine dP (Du _ _ a1 b1) ?_;simp [go_sem];try ((with_reducible refine wZ ?_);(try simp [go_sem]))
 refine dP (Du _ _ a2 b2) ?_;simp [go_sem];try ((with_reducible refine wZ ?_);(try simp [go_sem]))
 refine dP (Du _ _ a3 b3) ?_;simp [go_sem];try ((with_reducible refine wZ ?_);(try simp [go_sem]))
 refine dP (uA _ _) ?_;simp [go_sem];try ((with_reducible refine wZ ?_);(try simp [go_sem]))
 refine dP (uA _ _) ?_;simp [go_sem];try ((with_reducible refine wZ ?_);(try simp [go_sem]))
 refine uU.mk Pi ?_;simp [go_sem];generalize e1:kV a.at_ b.at_=x1;generalize e2:kV a.h0 b.h0=x2;generalize e3:kV a.h1 b.h1=x3;generalize e4:dy a.rights b.rights=x4;generalize e5:dy a.side b.side=x5;unfold bi;rw [e1,e2,e3,e4,e5];refine zg6 ?_;simp [go_sem];refine zg4 (λ h1=> ?_) (λ h1=> ?_)<;>simp at h1<;>simp [go_sem,h1];refine zg6 ?_;simp [go_sem];refine zg4 (λ h2=> ?_) (λ h2=> ?_)<;>simp at h2<;>simp [go_sem,h1,h2];refine zg6 ?_;simp [go_sem];refine zg4 (λ h3=> ?_) (λ h3=> ?_)<;>simp at h3<;>simp [go_sem,h1,h2,h3];refine zg6 ?_;simp [go_sem];refine zg4 (λ h4=> ?_) (λ h4=> ?_)<;>simp at h4<;>simp [go_sem,h1,h2,h3,h4];refine zg6 ?_;simp [go_sem];refine zg4 (λ h5=> ?_) (λ h5=> ?_)<;>simp at h5<;>simp [go_sem,h1,h2,h3,h4,h5];refine zg6 ?_;simp [go_sem]
def Sc (n:Nat) (p:aa):AV:= .agg [.sl (n+2) 1 1 0 p.at_.length, .sl (n+3) 1 1 0 p.h0.length, .sl (n+8) 1 1 0 p.h1.length, .int p.rights, .int p.side]
def Mf (n:Nat) (p:aa):List (Nat×cB):= [(n+2, .rows true 1 1 (p.at_.map dR)),(n+3, .rows true 1 1 (p.h0.map dR)),(n+8, .rows true 1 1 (p.h1.map dR))]
attribute [go_sem] Sc Mf
theorem oh (p:aa) (ha:bH p):uR Tryz.prog 110 [.agg (ak p)] (λ n=>Sc n p) (λ n=>Mf n p) 9:=by
 refine ⟨aF Tryz.func110 ?_,λ n=>⟨?_, ?_⟩⟩
 ·obtain ⟨a1,a2,a3⟩:=ha;unfold kn at a1 a2 a3;simp [go_sem];refine zhl ge λ _=> ?_;simp [go_sem];try ((with_reducible refine wZ ?_);(try simp [go_sem]))
  refine zhq ge λ _=> ?_;simp [go_sem];try ((with_reducible refine wZ ?_);(try simp [go_sem]))
  refine zhq ge λ _=> ?_;simp [go_sem];try ((with_reducible refine wZ ?_);(try simp [go_sem]))
  refine uU.mk Pi ?_;simp [go_sem,aj]
 ·simp [go_sem]
 ·simp [go_sem]
theorem MF (p:aa) (ha:bH p):uR Tryz.prog 65 [.agg (ak p)] (λ n=>Sc (n+2) p) (λ n=>Mf (n+2) p) 11:=by
 refine ⟨aF Tryz.func65 ?_,λ n=>⟨?_, ?_⟩⟩
 ·simp [go_sem];refine zg8 (oh p ha) no ?_;simp [go_sem,aj]
 ·simp [go_sem]
 ·simp [go_sem]
theorem wl (l:List Int) (hl:kn l):uR Tryz.prog 198 [aS l] (λ n=> .sl n 1 1 0 l.length) (λ n=> [(n, .rows true 1 1 (l.map dR))]) 1:=by
 refine ⟨zhA (λ hne=>aF Tryz.func198 ?_)
  (λ he A c=>aF Tryz.func198 ?_),λ n=>⟨?_, ?_⟩⟩
 ·unfold kn at hl;obtain ⟨x,l,rfl⟩:=List.exists_cons_of_ne_nil (show l≠ [] by grind);simp only [List.length_cons] at hl;simp [go_sem];refine zhl ge λ _=> ?_;simp [go_sem,aj]
 ·obtain rfl:l= []:=by simp_all
  simp [go_sem];refine zg4 (λ h=> ?_) (λ h=> ?_)
  ·simp at h;subst h;simp [go_sem,aj]
  ·simp [go_sem,aj]
 ·simp [go_sem]
 ·simp [go_sem]
def idxOf (p:Int->Bool) (l:List Int):Int:=match l.findIdx? p with|some i=>(i:Int)|none=> -1
variable {p:Int->Bool}
theorem zb7  (hj:j<l.length) (h:∀i,i<j->p (ac l i)=false) (hp:p (ac l j)=true):idxOf p l=j:=by
 have:l.findIdx? p=some j:=by
  grind [List.findIdx?_eq_some_iff_getElem,ac]
 simp [idxOf,this]
theorem Rl  (h:∀i,i<l.length->p (ac l i)=false):idxOf p l= -1:=by
 grind [List.getElem_of_mem,idxOf,ac]
theorem Vt :decide (0<=idxOf p l)=l.any p:=by
 grind [idxOf]
theorem FI (l:List Int) (hl:kn l) (f:FuncId) (first caps:List AV) (p:Int->Bool) (hp:∀x ∈ l,aq Tryz.prog f (first++ .int x::caps) (.v (.bool (p x)))) (hb:∀c ∈ first,aN 0 c) (hb':∀c ∈ caps,aN 0 c):
  aq Tryz.prog 192 [aS l, .fn (.func f) first caps] (.int (idxOf p l)):=by
 refine pF Tryz.func192 ?_;unfold kn at hl;simp [go_sem];refine zg3 (zg5 (α:=Nat) (λ j=>⟨[(0,aS l),(1, .fn (.func f) first caps),(7, .int l.length),(8, .int j)], [],0⟩)
  (λ d j=>j+d=l.length∧(∀i<j,p (ac l i)=false)) ?_ l.length 0 ?_) ?_ ?_
 ·rintro d j ⟨i1,i2⟩ hrec;simp [go_sem];refine zg4 (λ hj=> ?_) (λ hj=> ?_)
  ·simp at hj;simp [go_sem];refine zhl hj λ _=> ?_;simp [go_sem,hj];refine zg7 (hp _ (am hj)) (λ c hc=>by
    rcases List.mem_append.1 hc with h|h
    ·grind
    ·rcases List.mem_cons.1 h with rfl|h
     ·exact .v _
     grind) ?_
   simp [go_sem];refine zg4 (λ h=> ?_) (λ h=> ?_)
   ·simp [go_sem,zb7 hj i2 h]
   ·simp [go_sem];refine zhl ge λ _=> ?_;simp [go_sem];refine zg3 (hrec (d - 1) ge (j+1) ⟨ge,λ i hi=> ?_⟩) ?_ gt
    ·grind
    ·simp [go_sem,aj];grind
  ·simp at hj;simp [go_sem,Rl λ i hi=>i2 i ge]
 ·simp
 ·simp [go_sem,aj];grind
 ·simp
theorem ud (l:List Int) (hl:kn l) (f:FuncId) (first caps:List AV) (p:Int->Bool) (hp:∀x ∈ l,aq Tryz.prog f (first++ .int x::caps) (.v (.bool (p x)))) (hb:∀c ∈ first,aN 0 c) (hb':∀c ∈ caps,aN 0 c):
  aq Tryz.prog 140 [aS l, .fn (.func f) first caps] (.v (.bool (l.any p))):=by
 refine pF Tryz.func140 ?_;simp [go_sem];refine zg7 (FI l hl f first caps p hp hb hb') (by simp [go_sem];grind) ?_;simp [go_sem,Vt]
theorem xR {α:Type}{f:α->List AV}{l:List α}{sz:Nat} (h:∀x,∀c ∈ f x,aN n c):aN n (.lst sz (l.map f)):=by
 refine .lst λ r hr c hc=> ?_;grind
theorem UM {l:List kT}:aN n (.lst 3 (l.map cH))=True:=eq_true (xR λ k c hc=>by
 simp only [cH,List.mem_cons,List.mem_nil_iff,or_false] at hc;rcases hc with rfl|rfl|rfl
 ·exact .v _
 ·refine xR λ p c hc=> ?_;simp only [List.mem_cons,List.mem_nil_iff,or_false] at hc;subst hc;exact xR λ s c hc=>by
   simp only [dC,List.mem_cons,List.mem_nil_iff,or_false] at hc;rcases hc with rfl|rfl<;>exact .v _
 ·exact .v _)
theorem ND {l:List (Int×Int×Int×Int)}:aN n (.lst 4 (l.map cd))=True:=eq_true (xR λ k c hc=>by
 simp only [cd,List.mem_cons,List.mem_nil_iff,or_false] at hc;rcases hc with rfl|rfl|rfl|rfl<;>exact .v _)
theorem zdN {l:List (List Int)}:aN n (.lst 1 (l.map λ l=> [.lst 1 (l.map dR)]))=True:=eq_true (xR λ k c hc=>by
 grind [Lv])
attribute [go_sem high] UM ND zdN
def Dh (g:ae) (x:Int):Bool:=decide (0<=x) && decide (x<=2 * g.kinds.length)
def rY (g:ae):Prop:=g.kinds.length<=1000000
theorem LD (g:ae) (hg:rY g) (x:Int):aq Tryz.prog 251 [.agg (ai g), .int x] (.v (.bool (Dh g x))):=by
 refine pF Tryz.func251 ?_;unfold rY at hg;simp [go_sem];refine zhl ge λ _=> ?_;simp [go_sem,Dh]
theorem Fc (g:ae) (hg:rY g) (x:Int):aq Tryz.prog 252 [.int x, .fp [.fn (.func 251) [.agg (ai g)] []]] (.v (.bool !Dh g x)):=by
 refine pF Tryz.func252 ?_;simp [go_sem];refine aP (LD g hg x) ?_;simp [go_sem]
def ip:List Int->List kT->Bool
 |x::l,k::ks=>decide (0<=x) && decide (x<=8) && (!decide (0<x)||k.keep) && ip l ks
 | _, _=>true
def nV (g:ae) (l:List Int):Bool:=decide (l.length=g.kinds.length) && ip l g.kinds
theorem Kb (g:ae) (hg:rY g) (l:List Int) (hl:kn l):aq Tryz.prog 253 [.agg (ai g),aS l] (.v (.bool (nV g l))):=by
 refine pF Tryz.func253 ?_;unfold rY at hg;unfold kn at hl;simp [go_sem];refine zg4 (λ hn=> ?_) (λ hn=> ?_)
 ·simp at hn;have hn':l.length≠g.kinds.length:=ge;simp [go_sem,nV,hn']
 ·simp at hn;have hn':l.length=g.kinds.length:=ge;simp [go_sem];have hk:nV g l=ip l g.kinds:=by simp [nV,hn']
  rw [hk];refine zg3 (zg5 (α:=Nat) (λ j=>⟨[(2, .ref 0 0 9 0 0),(14,aS l),(15, .int l.length),(16, .int j)], [(0, .rows true 0 9 [ai g])],1⟩)
   (λ d j=>j+d=l.length∧ip l g.kinds=ip (l.drop j) (g.kinds.drop j)) ?_ l.length 0 ?_) ?_ ?_
  ·rintro d j ⟨i1,i2⟩ hrec;simp [go_sem];refine zg4 (λ hj=> ?_) (λ hj=> ?_)
   ·simp at hj;have hj2:j<g.kinds.length:=ge;rw [p7 hj,show g.kinds.drop j=ac g.kinds j::g.kinds.drop (j+1) by grind [List.drop_eq_getElem_cons,ac],ip] at i2;simp [go_sem];refine zhl hj λ _=> ?_;simp [go_sem,hj];refine zhl pi λ _=> ?_;simp [go_sem,hj2];refine zhl pi λ _=> ?_;simp [go_sem];refine zg4 (λ hb=> ?_) (λ hb=> ?_)
    ·have:ip l g.kinds=false:=by
      grind
     simp [go_sem,this]
    ·have:ip l g.kinds=ip (List.drop (j+1) l) (List.drop (j+1) g.kinds):=by
      grind
     simp [go_sem];refine zhl ge λ _=> ?_;simp [go_sem];refine zg3 (hrec (d - 1) ge (j+1) ⟨ge,this⟩) ?_ gt;simp [go_sem,aj]
   ·simp at hj;rw [List.drop_eq_nil_of_le hj] at i2;have:ip l g.kinds=true:=by rw [i2];rfl
    simp [go_sem,this]
  ·simp
  ·simp [go_sem,aj]
  ·simp
def CC (g:ae) (p:aa):Bool:=
 decide ((p.at_.length:Int)=g.cells) && !(p.at_.any λ x=> !Dh g x) && nV g p.h0 && nV g p.h1 && decide (0<=p.rights) && decide (p.rights<2 ^ g.rights.toNat) && (decide (p.side=0)||decide (p.side=1))
def zeL (g:ae):Prop:=0<=g.rights∧g.rights<=60
theorem FU (g:ae) (hg:rY g) (hr:zeL g) (p:aa) (hp:bH p):aq Tryz.prog 210 [.agg (ai g), .agg (ak p)] (.v (.bool (CC g p))):=by
 refine pF Tryz.func210 ?_;obtain ⟨p1,p2,p3⟩:=hp;obtain ⟨r1,r2⟩:=hr;simp [go_sem];try ((with_reducible refine wZ ?_);(try simp [go_sem]))
 refine zhI [aS p.at_, .fn (.func 252) [] [.fp [.fn (.func 251) [.agg (ai g)] []]]] (.v (.bool (p.at_.any λ x=> !Dh g x))) [3]
  (λ _=>ud _ p1 _ [] _ _ (λ x _=>Fc g hg x) gt no) (.v _) (λ h₁ hS=> ?_) no ?_
 ·have:=hS 3 gt;simp [go_sem] at this;simp only [List.nil_append,List.append_nil,aS];exact .cons (.refl _) (.cons (.fn .nil (.cons (.frzP this.symm gt gt Xb (by simp [ac,go_sem])) .nil)) .nil)
 simp [go_sem];try ((with_reducible refine wZ ?_);(try simp [go_sem]))
 refine zg9 _ (λ _=>Kb g hg p.h0 p2) no ?_;simp [go_sem];try ((with_reducible refine wZ ?_);(try simp [go_sem]))
 refine zg9 _ (λ _=>Kb g hg p.h1 p3) no ?_;simp [go_sem];have hpow:(0:Int)<=2 ^ g.rights.toNat∧(2:Int) ^ g.rights.toNat<=1152921504606846976:=by
  have h1:g.rights.toNat<=60:=ge;have h2:(2:Int) ^ g.rights.toNat<=2 ^ 60:=by have:=Nat.pow_le_pow_right (n:=2) ge h1;grind
  grind
 try ((with_reducible refine wZ ?_);(try simp [go_sem]))
 refine zhq pi λ _=> ?_;simp [go_sem];try ((with_reducible refine wZ ?_);(try simp [go_sem]))
 refine zhq (λ a1 a2 a3 a4 a5 a6=>⟨⟨⟨⟨⟨⟨a1,a2⟩,a3⟩,a4⟩,a5⟩,a6⟩,λ a7=>⟨⟨⟨⟨⟨⟨a1,a2⟩,a3⟩,a4⟩,a5⟩,a6⟩,a7⟩⟩) λ _=> ?_;simp [go_sem];try ((with_reducible refine wZ ?_);(try simp [go_sem]))
 refine uU.mk Pi ?_;simp [go_sem];grind [zhg,CC]
theorem bJ {h h':au}{n:Nat}:∀ {xs xs' ys ys':List (List AV)},bg h h' n xs xs'->bg h h' n ys ys'->bg h h' n (xs++ys) (xs'++ys')
 | [], _, _, _, .refl _,h2=>h2
 | [], _, _, _, .nil,h2=>h2
 |x::xs, _, _, _, .refl _,h2=> .cons (.refl _ _ _ _) (bJ (.refl xs) h2)
 | _:: _, _, _, _, .cons a b,h2=> .cons a (bJ b h2)
theorem zhd {h h':au}{xs ys:List (List AV)} (e:xs=ys):bg h h' n xs ys:=e▸ .refl _
def kq:Option cB->Option cB
 |some (.rows _ g sz rs)=>some (.rows false g sz rs)
 |none=>none
def io (h:au) (os:List Nat):au:=λ o=>if os.contains o then kq (h o) else h o
theorem Rc (h:au) (os:List Nat) (o:Nat):io h os o=if os.contains o then kq (h o) else h o:=rfl
theorem Vo (mt:Bool) (g sz:Nat) (rs:List (List AV)):kq (some (.rows mt g sz rs))=some (.rows false g sz rs):=rfl
theorem ri (h:au) (os:List Nat):zH h (io h os):=by
 intro o;unfold io;split
 ·cases ho:h o with
  |none=>exact .inl rfl
  |some x=>
   cases x with
   |rows mt g sz rs=>
    cases mt with
    |true=>grind [kq]
    |false=>exact .inl rfl
 grind
theorem zha {P:Program}{f:FuncId}{args args':List AV}{r:AV}{h:au}{K:cI} (os:List Nat) (hp:aq P f args' r) (hle:aY h (io h os) n args args') (hb:∀c ∈ args',aN 0 c)
  (hk:K r (io h os) n):ap P f args h n K:=ap.pure (io h os) hp (ri h os) hle hb hk
attribute [go_sem] Rc Vo
def AH (n:Int):List AV:= [.v (.int .u8 n)]
def JF (l:List Int):AV:= .lst 1 (l.map AH)
theorem zgH :(∀r ∈ l.map AH,∀c ∈ r,aN n c)=True:=by
 refine eq_true ?_;intro r hr c hc;obtain ⟨x, _,rfl⟩:=List.mem_map.1 hr;simp only [AH,List.mem_singleton] at hc;subst hc;exact .v _
theorem zfA :aN n (.lst 1 (l.map AH))=True:=by rw [jd,zgH]
attribute [go_sem] AH JF
attribute [go_sem high] zfA
theorem zs {g:ae}{p:aa}:CC g p=true↔((p.at_.length:Int)=g.cells∧(∀x ∈ p.at_,0<=x∧x<=2 * g.kinds.length)∧nV g p.h0=true∧nV g p.h1=true∧0<=p.rights∧p.rights<2 ^ g.rights.toNat∧(p.side=0∨p.side=1)):=by
 grind [CC,Dh]
theorem L9 {α:Type} [Inhabited α] {l:List α}{c:Nat}{x:α} (h:c<l.length):ac (l.set c x) c=x:=by simp [ac,h]
attribute [go_sem] L9
theorem bQ {α:Type} [Inhabited α] {l:List α} (h:j<l.length):l.drop j=ac l j::l.drop (j+1):=W6
theorem Ha (g:ae) (hg:rY g) (l:List Int) (hl:l.length<=9223372036854775807):aq Tryz.prog 217 [.agg (ai g),aS l] (.v (.bool (nV g l))):=by
 refine pF Tryz.func217 ?_;unfold rY at hg;refine J0 ?_;refine zg4 (λ hn=> ?_) (λ hn=> ?_)<;>simp at hn
 ·have e:nV g l=false:=by grind [nV]
  rw [e];exact K0
 ·refine J0 ?_;have e:nV g l=ip l g.kinds:=by grind [nV]
  rw [e];refine zg3 (zg5 (α:=Nat) (λ j=>⟨[(1,aS l),(2, .ref 0 0 9 0 0),(5, .int j)], [(0, .rows true 0 9 [ai g])],1⟩)
   (λ d j=>j+d=l.length∧ip l g.kinds=ip (l.drop j) (g.kinds.drop j)) ?_ l.length 0 ?_) ?_ ?_
  ·rintro d j ⟨i1,i2⟩ hrec;refine J0 ?_;refine zg4 (λ hj=> ?_) (λ hj=> ?_)<;>simp at hj
   ·have hjk:j<g.kinds.length:=by omega
    rw [bQ hj,bQ hjk,ip] at i2;generalize hR:ip (List.drop (j+1) l) (List.drop (j+1) g.kinds)=R at *;cases hkp:(ac g.kinds j).keep
    ·rw [hkp] at i2;refine J3 hj hjk hkp ?_;refine zg4 (λ hb=> ?_) (λ hb=> ?_)<;>simp at hb
     ·have e2:ip l g.kinds=false:=by grind
      rw [e2];exact K0
     ·have e2:ip l g.kinds=R:=by
       grind
      refine J0 ?_;refine zg3 (hrec (d - 1) ge (j+1) ⟨ge,pi⟩) ?_ gt;simp [go_sem,aj]
    ·rw [hkp] at i2;refine J3 hj hjk hkp ?_;refine zg4 (λ hb=> ?_) (λ hb=> ?_)<;>simp at hb
     ·have e2:ip l g.kinds=false:=by grind
      rw [e2];exact K0
     ·have e2:ip l g.kinds=R:=by
       grind
      refine J0 ?_;refine zg3 (hrec (d - 1) ge (j+1) ⟨ge,pi⟩) ?_ gt;simp [go_sem,aj]
   ·rw [List.drop_eq_nil_of_le hj,show ∀ks,ip [] ks=true from λ ks=>by simp [ip]] at i2;rw [i2];exact K0
  ·grind
  ·simp [go_sem,aj]
  ·simp
theorem ug (g:ae) (hg:rY g) (hr:zeL g) (p:aa) (hp:bH p):aq Tryz.prog 163 [.agg (ai g), .agg (ak p)] (.v (.bool (CC g p))):=by
 refine pF Tryz.func163 ?_;obtain ⟨p1,p2,p3⟩:=hp;obtain ⟨r1,r2⟩:=hr;have hpow:(0:Int)<=2 ^ g.rights.toNat∧(2:Int) ^ g.rights.toNat<=1152921504606846976:=by
  have h1:g.rights.toNat<=60:=ge;have h2:(2:Int) ^ g.rights.toNat<=2 ^ 60:=by have:=Nat.pow_le_pow_right (n:=2) ge h1;exact_mod_cast this
  exact ⟨Int.pow_nonneg ge,XZ⟩
 unfold rY at hg;refine J0 ?_;refine zg9 _ (λ _=>Ha g hg p.h0 (by unfold kn at p2;omega)) no ?_;refine J0 ?_;refine zg9 _ (λ _=>Ha g hg p.h1 (by unfold kn at p3;omega)) no ?_;generalize hpw:(2:Int) ^ g.rights.toNat=pw at *;refine J1 hpw ?_;unfold kn at p1;refine zg4 (λ hv=> ?_) (λ hv=> ?_)<;>simp at hv
 ·have e:CC g p=false:=by
   rw [Bool.eq_false_iff];intro h;obtain ⟨a1,a2,a3,a4,a5,a6,a7⟩:=zs.1 h;rw [hpw] at a6;rw [a3,a4] at hv;simp at hv;omega
  rw [e];exact K0
 ·have hn:∀x:Int,(∀y ∈ p.at_,0<=y∧y<=2 * g.kinds.length)->CC g p=true:=λ _ h=>by
   rw [zs,hpw];obtain ⟨⟨⟨⟨⟨⟨b1,b2⟩,b3⟩,b4⟩,b5⟩,b6⟩,b7⟩:=hv;exact ⟨b1,h,b2,b3,b4,b5,ge⟩
  refine J0 ?_;refine zg3 (zg5 (α:=Nat) (λ j=>⟨[(2, .ref 0 0 9 0 0),(3, .ref 1 0 5 0 0),(5, .int j)], [(0, .rows true 0 9 [ai g]),(1, .rows true 0 5 [ak p])],2⟩)
   (λ d j=>j+d=p.at_.length∧∀i,i<j->0<=ac p.at_ i∧ac p.at_ i<=2 * g.kinds.length) ?_ p.at_.length 0 ?_) ?_ ?_
  ·rintro d j ⟨i1,i2⟩ hrec;refine J0 ?_;refine zg4 (λ hj=> ?_) (λ hj=> ?_)<;>simp at hj
   ·refine J1 hj ?_;refine zg4 (λ hb=> ?_) (λ hb=> ?_)<;>simp at hb
    ·have e:CC g p=false:=by
      rw [Bool.eq_false_iff];intro h;have:=(zs.1 h).2.1 _ (am hj);omega
     rw [e];exact K0
    ·refine J0 ?_;refine zg3 (hrec (d - 1) ge (j+1) ⟨ge,λ i hi=> ?_⟩) ?_ gt
     ·rcases Nat.lt_or_ge i j with h|h
      ·exact i2 i h
      ·obtain rfl:i=j:=by omega
       exact hb
     ·simp [go_sem,aj]
   ·have e:=hn 0 (λ y hy=>by
     obtain ⟨i,hi,rfl⟩:=List.getElem_of_mem hy;rw [<- dT _ _ hi];exact i2 i ge)
    rw [e];exact K0
  ·exact ⟨gt,λ i hi=>ge⟩
  ·simp [go_sem,aj]
  ·simp
def aO (l:List aa):AV:= .lst 5 (l.map ak)
attribute [go_sem] aO
instance:Inhabited aa:=⟨⟨[], [], [],0,0⟩⟩
theorem zdK {p:aa}:∀c ∈ ak p,aN n c:=no
theorem Jn {l:List aa}:(∀r ∈ l.map ak,∀c ∈ r,aN n c)=True:=by
 grind [zdK]
theorem Qz {l:List aa}:aN n (.lst 5 (l.map ak))=True:=by rw [jd,Jn]
attribute [go_sem high] Qz
structure cg where
 cells:Int
 next:List (List Int)
 turn:List Int
 deriving DecidableEq
def gR (b:cg):List AV:= [.int b.cells,fu b.next,aS b.turn]
attribute [go_sem] gR
def ae.board (g:ae):cg:=⟨g.cells,g.next,g.turn⟩
structure c8 (b:cg):Prop where
 tl:b.turn.length=b.next.length
 tv:∀t ∈ b.turn,0<=t∧t<b.next.length
 nl:∀l ∈ b.next,(l.length:Int)=b.cells
 nv:∀l ∈ b.next,∀x ∈ l, -1<=x∧x<b.cells
 c0:0<=b.cells
 c1:b.cells<=1048576
 n1:b.next.length<=1048576
def sb (b:cg) (side d c:Int):Int:=
 if side<0∨1<side∨d<0∨(b.next.length:Int)<=d∨c<0∨b.cells<=c then -1 else ac (ac b.next (if side=1 then (ac b.turn d.toNat) else d).toNat) c.toNat
theorem zak {b:cg} (hb:c8 b) (side d c:Int): -1<=sb b side d c∧sb b side d c<b.cells∨sb b side d c= -1:=by
 unfold sb;split
 ·grind
 ·left;have hd:(if side=1 then (ac b.turn d.toNat) else d).toNat<b.next.length:=by
   split
   ·have:=hb.tv _ (am (l:=b.turn) (i:=d.toNat) (by have:=hb.tl;omega));omega
   ·omega
  have hl:=hb.nl _ (am hd);exact hb.nv _ (am hd) _ (am ge)
theorem C6 (b:cg) (hb:c8 b) (side d c:Int):aq Tryz.prog 241 [.agg (gR b), .int side, .int d, .int c] (.int (sb b side d c)):=by
 refine pF Tryz.func241 ?_;obtain ⟨tl,tv,nl,nv,c0,c1,n1⟩:=hb;refine J0 ?_;refine zg4 (λ hs=> ?_) (λ hs=> ?_)<;>simp at hs
 ·have e:sb b side d c= -1:=by grind [sb]
  rw [e];exact K0
 ·have hdt:d.toNat<b.next.length:=by omega
  have hdu:d.toNat<b.turn.length:=ge;have e:sb b side d c=ac (ac b.next (if side=1 then (ac b.turn d.toNat) else d).toNat) c.toNat:=by grind [sb]
  refine J0 ?_;refine zg4 (λ h1=> ?_) (λ h1=> ?_)<;>simp at h1
  ·rw [if_pos h1] at e;have ht:=tv _ (am hdu);have hn:(ac b.turn d.toNat).toNat<b.next.length:=ge;have hl:=nl _ (am hn);have hc:c.toNat<(ac b.next (ac b.turn d.toNat).toNat).length:=ge;rw [e];exact K3 hdu hn hc
  ·rw [if_neg h1] at e;have hl:=nl _ (am hdt);have hc:c.toNat<(ac b.next d.toNat).length:=ge;rw [e];exact K2 hdt hc
theorem Bx (b:cg) (hb:c8 b) (side d c:Int):aq Tryz.prog 298 [.agg (gR b), .int side, .int d, .int c] (.int (sb b side d c)):=by
 refine pF Tryz.func298 ?_;obtain ⟨tl,tv,nl,nv,c0,c1,n1⟩:=hb;refine J0 ?_;refine zg4 (λ hs=> ?_) (λ hs=> ?_)<;>simp at hs
 ·have e:sb b side d c= -1:=by grind [sb]
  rw [e];exact K0
 ·have hdt:d.toNat<b.next.length:=by omega
  have hdu:d.toNat<b.turn.length:=ge;have e:sb b side d c=ac (ac b.next (if side=1 then (ac b.turn d.toNat) else d).toNat) c.toNat:=by grind [sb]
  refine J0 ?_;refine zg4 (λ h1=> ?_) (λ h1=> ?_)<;>simp at h1
  ·rw [if_pos h1] at e;have ht:=tv _ (am hdu);have hn:(ac b.turn d.toNat).toNat<b.next.length:=ge;have hl:=nl _ (am hn);have hc:c.toNat<(ac b.next (ac b.turn d.toNat).toNat).length:=ge;rw [e];exact K3 hdu hn hc
  ·rw [if_neg h1] at e;have hl:=nl _ (am hdt);have hc:c.toNat<(ac b.next d.toNat).length:=ge;rw [e];exact K2 hdt hc
theorem Qe (l:List Int) (n:Int) (hl:l.length<=1099511627776):aq Tryz.prog 279 [aS l, .int n] (.v (.bool (decide (n ∈ l)))):=by
 refine pF Tryz.func279 ?_;generalize hr:decide (n ∈ l)=res;refine J0 ?_;refine zg3 (zg5 (α:=Nat) (λ j=>⟨[(0,aS l),(1, .int n),(5, .int j)], [],0⟩)
  (λ d j=>j+d=l.length∧res=decide (n ∈ l.drop j)) ?_ l.length 0 ?_) ?_ ?_
 ·rintro d j ⟨i1,i2⟩ hrec;refine J0 ?_;refine zg4 (λ hj=> ?_) (λ hj=> ?_)<;>simp at hj
  ·rw [p7 hj] at i2;refine J1 hj ?_;refine zg4 (λ he=> ?_) (λ he=> ?_)<;>simp at he
   ·have e:res=true:=by grind
    rw [e];exact K0
   ·have e:res=decide (n ∈ l.drop (j+1)):=by grind
    refine J0 ?_;refine zg3 (hrec (d - 1) ge (j+1) ⟨ge,e⟩) ?_ gt;simp [go_sem,aj]
  ·have e:res=false:=by grind [List.drop_eq_nil_of_le]
   rw [e];exact K0
 ·grind
 ·simp [go_sem,aj]
 ·simp
def gi (l:List Int) (n:Int):Int:=match l.findIdx? (·==n) with|some i=>(i:Int)|none=> -1
theorem Vu {n:Int} (hj:j<l.length) (h:∀i,i<j->ac l i≠n) (hp:ac l j=n):gi l n=j:=by
 have:l.findIdx? (·==n)=some j:=by
  grind [List.findIdx?_eq_some_iff_getElem,dT]
 simp [gi,this]
theorem OE {n:Int} (h:∀i,i<l.length->ac l i≠n):gi l n= -1:=by
 grind [List.getElem_of_mem,gi,ac]
theorem Rm {n:Int}:decide (0<=gi l n)=decide (n ∈ l):=by
 grind [gi]
theorem Am (l:List Int) (n:Int) (hl:l.length<=1099511627776):aq Tryz.prog 98 [aS l, .int n] (.int (gi l n)):=by
 refine pF Tryz.func98 ?_;refine J0 ?_;refine zg3 (zg5 (α:=Nat) (λ j=>⟨[(0,aS l),(1, .int n),(7, .int l.length),(8, .int j)], [],0⟩)
  (λ d j=>j+d=l.length∧∀i,i<j->ac l i≠n) ?_ l.length 0 ?_) ?_ ?_
 ·rintro d j ⟨i1,i2⟩ hrec;refine J0 ?_;refine zg4 (λ hj=> ?_) (λ hj=> ?_)<;>simp at hj
  ·refine J1 hj ?_;refine zg4 (λ he=> ?_) (λ he=> ?_)<;>simp at he
   ·rw [Vu hj i2 he.symm];exact K0
   ·refine J0 ?_;refine zg3 (hrec (d - 1) ge (j+1) ⟨ge,λ i hi=> ?_⟩) ?_ gt
    ·grind
    ·simp [go_sem,aj]
  ·rw [OE (λ i hi=>i2 i ge)];exact K0
 ·grind
 ·simp [go_sem,aj]
 ·simp
theorem Iy (l:List Int) (n:Int) (hl:l.length<=1099511627776):aq Tryz.prog 326 [aS l, .int n] (.v (.bool (decide (n ∈ l)))):=by
 refine pF Tryz.func326 ?_;refine J0 ?_;refine aP (Am l n hl) ?_;rw [<- Rm];exact K0
def nW (b:cg) (side d c:Int):Nat->Int->List Int->List Int
 |0, _,seen=>seen
 |f+1,x,seen=>if 0<=x∧x≠c∧¬x ∈ seen then nW b side d c f (sb b side d x) (seen++ [x]) else seen
def uy (b:cg) (side d c:Int):List Int:=nW b side d c (b.cells.toNat+1) (sb b side d c) []
theorem vY:∀ (n:Nat) (l:List Int),l.Nodup->(∀x ∈ l,0<=x∧x<n)->l.length<=n
 |0,l, _,h=>by
  cases l with
  |nil=>simp
  |cons x l=>have:=h x gt;omega
 |n+1,l,hn,h=>by
  by_cases hm:(n:Int) ∈ l
  ·have:=vY n (l.erase n) (hn.erase _) (λ x hx=>by
    have h1:=(hn.mem_erase_iff).1 hx;have:=h x h1.2;omega)
   rw [List.length_erase_of_mem hm] at this;omega
  ·have:=vY n l hn (λ x hx=>by
    have:=h x hx;have:x≠n:=λ e=>hm (e▸hx);omega)
   omega
theorem tU {b:cg} (hb:c8 b) (side d c:Int):sb b side d c<b.cells:=by
 have:=hb.c0;rcases zak hb side d c with h|h<;>omega
theorem MU (b:cg) (hb:c8 b) (side d c:Int):aq Tryz.prog 243 [.agg (gR b), .int side, .int d, .int c] (aS (uy b side d c)):=by
 refine pF Tryz.func243 ?_;have hbl:∀n,(∀c' ∈ gR b,aN n c')=True:=λ n=>no;have hel:(gR b).length=3:=rfl;have hT:∀x,aq Tryz.prog 241 [.agg (gR b), .int side, .int d, .int x] (.int (sb b side d x)):=λ x=>C6 b hb side d x;obtain ⟨eb,heb⟩:∃eb,eb=gR b:=⟨_,rfl⟩
 rw [<- heb] at hbl hel hT ⊢;have hc1:=hb.c1;have hc0:=hb.c0;refine J1 hel ?_;refine zg7 (hT c) WB ?_;refine J1 hel ?_;refine zg3 (zg5 (α:=Int×List Int) (λ a=>⟨[(1, .int side),(2, .int d),(3, .int c),(4, .ref 0 0 3 0 0),(9, .sl 1 a.2.length 1 0 a.2.length),(10, .int a.1)],
   [(0, .rows true 0 3 [eb]),(1, .rows true a.2.length 1 (a.2.map dR))],2⟩)
  (λ f a=>f+a.2.length=b.cells.toNat+1∧a.1<b.cells∧a.2.Nodup∧(∀y ∈ a.2,0<=y∧y<b.cells)∧uy b side d c=nW b side d c f a.1 a.2) ?_ (b.cells.toNat+1) (sb b side d c, []) ?_) ?_ ?_
 ·rintro f ⟨x,seen⟩ ⟨i1,i2,i3,i4,i5⟩ hrec;simp only at i1 i2 i3 i4 i5;have hsl:seen.length<=b.cells.toNat:=vY _ _ i3 (λ y hy=>by grind);obtain ⟨f,rfl⟩:∃f',f=f'+1:=⟨f - 1,ge⟩
  rw [nW] at i5;refine J1 hel ?_;refine zhm [aS seen, .int x] (.v (.bool (decide (x ∈ seen)))) (λ _=>Qe seen x ge) (.v _) ?_ no ?_
  ·refine aY.cons ?_ (aY.cons (.refl _) aY.nil);refine eY.frz rfl ?_ ?_ (zhd ?_)<;>simp [dO,List.take_of_length_le]
  ·refine J1 hel ?_;refine zg4 (λ hx=> ?_) (λ hx=> ?_)<;>simp at hx
   ·rw [if_pos pi] at i5;refine J1 hel ?_;refine zg7 (hT x) WB ?_;refine J1 hel ?_;refine zg3 (hrec f ge (sb b side d x,seen++ [x]) ⟨pi,tU hb _ _ _, ?_, ?_,i5⟩) ?_ gt
    ·grind
    ·grind
    ·simp [go_sem,aj,hbl];(first|done|exact zfD)
   ·rw [if_neg pi] at i5;rw [i5];refine J1 hel ?_;exact BY
 ·exact ⟨gt,tU hb _ _ _,gt,gt,rfl⟩
 ·simp [go_sem,aj,hbl]
 ·simp
def ju (b:cg) (side d:Int):Nat->Int->List Int
 |0, _=> []
 |k+1,x=>if 0<=x then x::ju b side d k (sb b side d x) else []
def ga (b:cg) (side d:Int):Nat->Int->Nat
 |0,x=>if 0<=x then 1 else 0
 |k+1,x=>if 0<=x then ga b side d k (sb b side d x) else 0
theorem EN {b:cg}{side d:Int}:∀ {k:Nat}{x:Int},ga b side d k x≠2
 |0,x=>by grind [ga]
 |k+1,x=>by unfold ga;split;exact EN;omega
theorem SL (b:cg) (hb:c8 b) (side d c:Int) (k:Nat):K8 Tryz.prog 335 [.fp (gR b), .fp [.int side], .fp [.int d], .fp [.int c]]
  (ga b side d k (sb b side d c)) ((ju b side d k (sb b side d c)).map dR):=by
 refine zhy Pi Tryz.func335 rfl rfl (Nat.le_of_ble_eq_true rfl) Pi (λ l=> ?_) (hm2:=EN);have hbl:∀n,(∀c' ∈ gR b,aN n c')=True:=λ n=>no;have hel:(gR b).length=3:=rfl;have hT:∀x,aq Tryz.prog 298 [.agg (gR b), .int side, .int d, .int x] (.int (sb b side d x)):=λ x=>Bx b hb side d x;have hg:∀ (n k:Nat) (x:Int),aN n (dY l (ga b side d k x) ((ju b side d k x).map dR)):=λ n k x=>by
  simp_all [dY,P0,KU,zaz,jd,dR]
 obtain ⟨eb,heb⟩:∃eb,eb=gR b:=⟨_,rfl⟩
 rw [<- heb] at hbl hel hT ⊢;have hte:eb.take 3=eb:=List.take_of_length_le ge;refine zeO hel hte ?_;refine zg7 (hT c) WB ?_;refine zeO hel hte ?_;refine zg3 (zg5 (α:=Nat×Int) (λ a=>⟨[(0, .fn (.yield l) [] []),(1, .fp eb),(2, .fp [.int side]),(3, .fp [.int d]),(6, .int a.2),(1000000007,dY l (ga b side d a.1 a.2) ((ju b side d a.1 a.2).map dR))], [],0⟩)
  (λ f a=>f=a.1∧ga b side d a.1 a.2=ga b side d k (sb b side d c)) ?_ k (k,sb b side d c) ?_) ?_ ?_
 ·rintro f ⟨k',x⟩ ⟨i1,i2⟩ hrec;simp only at i1 i2;subst i1;refine zeO hel hte ?_;by_cases hx:0<=x
  ·simp only [hx,decide_true];cases f with
   |zero=>exact lC.exh (by simp [aC,GH,ga,ju,hx])
   |succ f=>
    refine lC.yld (more:=ga b side d f (sb b side d x)) (xs:= [.int x]) (rs:=(ju b side d f (sb b side d x)).map dR) dO (by simp [aC,GH,ga,ju,hx,dR]) (.refl _) (.refl _ _ _ _) no ?_ ?_
    ·refine zeO hel hte ?_;refine zg7 (hT x) WB ?_;refine zeO hel hte ?_;rw [ga,if_pos hx] at i2;refine zg3 (hrec f ge (f,sb b side d x) ⟨rfl,i2⟩) ?_ gt;simp [go_sem,aj,hbl,hg,GH]
    ·exact Kg2 hel hte
  ·have hm:ga b side d f x=0:=by cases f<;>simp [ga,hx]
   have hr:ju b side d f x= []:=by cases f<;>simp [ju,hx]
   simp only [hx,decide_false];refine lC.skip (.v (.bool false)) ?_;refine zeO hel hte ?_;grind
 ·grind
 ·simp [go_sem,aj,hbl,hg,GH]
 ·simp
def Ic (n:Nat):AV:= .fn (.func 335) [] [.ref n 0 3 0 0, .ref (n+1) 0 1 0 0, .ref (n+2) 0 1 0 0, .ref (n+3) 0 1 0 0]
def Ib (b:cg) (side d c:Int) (n:Nat):List (Nat×cB):= [(n, .rows true 0 3 [gR b]),(n+1, .rows true 0 1 [[.int side]]),(n+2, .rows true 0 1 [[.int d]]),(n+3, .rows true 0 1 [[.int c]])]
theorem SM (b:cg) (side d c:Int):uR Tryz.prog 325 [.agg (gR b), .int side, .int d, .int c] Ic (Ib b side d c) 4:=by
 refine ⟨?_,λ n=>⟨by simp [go_sem,Ic],by simp [go_sem,Ib]⟩⟩;refine aF Tryz.func325 ?_;repeat first|refine wV λ _=>?_|simp [go_sem,Ic,Ib]
 simp [go_sem,aj]
theorem Gg (b:cg) (hb:c8 b) (side d c:Int):aq Tryz.prog 299 [.agg (gR b), .int side, .int d, .int c] (aS (uy b side d c)):=by
 refine pF Tryz.func299 ?_;have hbl:∀n,(∀c' ∈ gR b,aN n c')=True:=λ n=>no;have hel:(gR b).length=3:=rfl;have hS:uR Tryz.prog 325 [.agg (gR b), .int side, .int d, .int c] (λ n=>Ic n) (λ n=>Ib b side d c n) 4:=SM b side d c;have hQ:=λ k=>SL b hb side d c k;simp only [Ic,Ib] at hS;have hte:(gR b).take 3=gR b:=rfl;obtain ⟨eb,heb⟩:∃eb,eb=gR b:=⟨_,rfl⟩
 rw [<- heb] at hbl hel hS hQ hte ⊢;have hc1:=hb.c1;have hc0:=hb.c0;refine zeO hel hte ?_;refine zg8 hS WB ?_;refine zeO hel hte ?_;refine wo.mk [.fp eb, .fp [.int side], .fp [.int d], .fp [.int c]] (io _ [3,4,5,6]) (hQ (b.cells.toNat+1)) (ri _ _) ?_ WB (by simp [dR]) ?_
 ·refine aY.cons (.frzP rfl ?_ ?_ ?_ ?_) (aY.cons (.frzP rfl ?_ ?_ ?_ ?_) (aY.cons (.frzP rfl ?_ ?_ ?_ ?_) (aY.cons (.frzP rfl ?_ ?_ ?_ ?_) .nil)))<;>first|exact aY.refl _ _ _ _|simp [io,kq,aC]
 refine EO.to (zhv (α:=Nat×Int×List Int) (λ a=>([(7, .ref 1 0 1 0 0),(9, .ref 2 0 1 0 0)], [(1, .rows true 0 1 [[.int c]]),(2, .rows true 0 1 [[.sl 7 a.2.2.length 1 0 a.2.2.length]]),(7, .rows true a.2.2.length 1 (a.2.2.map dR))],8))
  (λ rows a=>rows=(ju b side d a.1 a.2.1).map dR∧ga b side d a.1 a.2.1=ga b side d (b.cells.toNat+1) (sb b side d c)∧a.1+a.2.2.length=b.cells.toNat+1∧a.2.1<b.cells∧a.2.2.Nodup∧
   (∀y ∈ a.2.2,0<=y∧y<b.cells)∧uy b side d c=nW b side d c a.1 a.2.1 a.2.2) ?_ ?_ _ (b.cells.toNat+1,sb b side d c, []) ?_) ?_ ?_
 ·rintro ⟨f,x,seen⟩ ⟨i0,i1,i2,i3,i4,i5,i6⟩;simp only at i0 i1 i2 i3 i4 i5 i6;have hsl:seen.length<=b.cells.toNat:=vY _ _ i4 (λ y hy=>by grind);obtain ⟨f,rfl⟩:∃f',f=f'+1:=⟨f - 1,ge⟩
  have hx:¬0<=x:=λ hx=>by grind [ju]
  rw [ga,if_neg hx] at i1;rw [nW,if_neg (λ h=>hx h.1)] at i6;refine ⟨i1.symm, ?_⟩;rw [i6];refine J1 hel ?_;exact BY
 ·rintro xs rs ⟨f,x,seen⟩ ⟨i0,i1,i2,i3,i4,i5,i6⟩ hrec;simp only at i0 i1 i2 i3 i4 i5 i6;have hsl:seen.length<=b.cells.toNat:=vY _ _ i4 (λ y hy=>by grind);cases f with
  |zero=>simp [ju] at i0
  |succ f=>
  have hx:0<=x:=by
   grind [ju]
  rw [ju,if_pos hx] at i0;simp only [List.map_cons,List.cons.injEq] at i0;obtain ⟨rfl,rfl⟩:=i0;rw [ga,if_pos hx] at i1;rw [nW] at i6;refine ic.go (Nat.zero_le _) ?_;repeat first|refine wV λ _=>?_|simp [go_sem,hel,GH,dR]
  refine zhm [aS seen, .int x] (.v (.bool (decide (x ∈ seen)))) (λ _=>Iy seen x ge) (.v _) ?_ no ?_
  ·refine aY.cons ?_ (aY.cons (.refl _) aY.nil);refine eY.frz rfl ?_ ?_ (zhd ?_)<;>simp [dO,List.take_of_length_le]
  refine zgz hel ?_;refine zg4 (λ hc=> ?_) (λ hc=> ?_)<;>simp at hc
  ·rw [if_neg pi] at i6;rw [i6];refine zgz hel ?_;exact BY
  ·rw [if_pos ⟨hx,pi⟩] at i6;refine zgz hel ?_;refine EO.to (hrec (f,sb b side d x,seen++ [x]) ⟨rfl,i1,pi,tU hb _ _ _, ?_, ?_,i6⟩) ?_ gt
   ·grind
   ·grind
   ·simp [go_sem,aj,GH]<;>(first|done|exact zfD)
 ·exact ⟨rfl,rfl,gt,tU hb _ _ _,gt,gt,rfl⟩
 ·simp [go_sem,aj]
 ·simp
end Go.Av
end
section
open Go Go.Proofs
namespace Go.Av
structure KW {α:Type} (c:α->α->Int):Prop where
 swap:∀a b,c b a= - c a b
 eq:∀a b,c a b=0↔a=b
 tr:∀a b d,c a b<=0->c b d<=0->c a d<=0
theorem wt:KW dy:=by
 refine ⟨λ a b=> ?_,λ a b=> ?_,λ a b d=> ?_⟩<;>unfold dy<;>(repeat' split)<;>omega
def RE (x y:Int):Int:=if x≠0 then x else y
theorem KW.prod {α β:Type}{c:α->α->Int}{d:β->β->Int} (hc:KW c) (hd:KW d):KW (λ (p q:α×β)=>RE (c p.1 q.1) (d p.2 q.2)):=by
 refine ⟨λ p q=> ?_,λ p q=> ?_,λ p q r=> ?_⟩
 ·have h1:=hc.swap p.1 q.1;have h2:=hd.swap p.2 q.2;grind [RE]
 ·have h1:=hc.eq p.1 q.1;have h2:=hd.eq p.2 q.2;grind [RE]
 ·intro h1 h2;simp only [RE] at h1 h2 ⊢;have e1:=hc.eq p.1 q.1;have e2:=hc.eq q.1 r.1;have e3:=hc.eq p.1 r.1;have s1:=hc.swap p.1 q.1;have s2:=hc.swap q.1 r.1;have s3:=hc.swap p.1 r.1;have t1:=hc.tr p.1 q.1 r.1;have t2:=hd.tr p.2 q.2 r.2;grind
theorem KW.pull {α β:Type}{c:β->β->Int} (hc:KW c) (f:α->β) (hf:∀a b,f a=f b->a=b):KW (λ a b=>c (f a) (f b)):=
 ⟨λ a b=>hc.swap _ _,λ a b=>⟨λ h=>hf _ _ ((hc.eq _ _).1 h),λ h=>(hc.eq _ _).2 (by rw [h])⟩,λ a b d=>hc.tr _ _ _⟩
theorem Gv:KW kV:=by
 refine ⟨?_, ?_, ?_⟩
 ·intro a;induction a with
  |nil=>intro b;cases b with
   |nil=>rfl
   |cons y b=>simp only [kV];grind [dy]
  |cons x a ih=>intro b;cases b with
   |nil=>simp only [kV];grind [dy]
   |cons y b=>
    have:=wt.swap x y;grind [kV]
 ·intro a;induction a with
  |nil=>grind [kV,dy]
  |cons x a ih=>intro b;cases b<;>grind [kV,dy]
 ·intro a;induction a with
  |nil=>grind [kV,dy]
  |cons x a ih=>
   intro b d h1 h2;cases b with
   |nil=>grind [kV,dy]
   |cons y b=>
    cases d<;>grind [kV,dy]
def zg0 (p:aa):List Int×List Int×List Int×Int×Int:=(p.at_,p.h0,p.h1,p.rights,p.side)
theorem bp:KW bi:=
 KW.pull (Gv.prod (Gv.prod (Gv.prod (wt.prod wt)))) zg0 (λ a b h=>by cases a;simp_all [zg0])
theorem oW {p q:aa}:bi p q=0↔p=q:=bp.eq p q
section sort
variable {α:Type} {c:α->α->Int} (hc:KW c)
def E9 (c:α->α->Int) (a b:α):Bool:=decide (c a b<=0)
def iW (c:α->α->Int) (l:List α):List α:=l.mergeSort (E9 c)
include hc
theorem zcg (a b d:α) (h1:E9 c a b=true) (h2:E9 c b d=true):E9 c a d=true:=by
 simp only [E9,decide_eq_true_eq] at *;exact hc.tr _ _ _ h1 h2
theorem TB (a b:α):(E9 c a b||E9 c b a)=true:=by
 have:=hc.swap a b;grind [E9]
theorem zcf {a b:α} (h1:E9 c a b=true) (h2:E9 c b a=true):a=b:=by
 have:=hc.swap a b;simp only [E9,decide_eq_true_eq] at *;exact (hc.eq _ _).1 ge
theorem CM (l:List α):(iW c l).Pairwise (λ a b=>E9 c a b=true):=List.pairwise_mergeSort (zcg hc) (TB hc) l
theorem wR {l r:List α} (hp:r.Perm l) (hs:r.Pairwise (λ a b=>E9 c a b=true)):iW c l=r:=
 List.Perm.eq_of_pairwise (λ a b _ _ h1 h2=>zcf hc h1 h2) (CM hc l) hs ((List.mergeSort_perm l _).trans hp.symm)
theorem PN (a b:List α):List.merge (iW c a) (iW c b) (E9 c)=iW c (a++b):=
 (wR hc ((List.merge_perm_append (le:=E9 c)).trans ((List.mergeSort_perm a _).append (List.mergeSort_perm b _)))
  (List.pairwise_merge (zcg hc) (TB hc) _ _ (CM hc a) (CM hc b))).symm
omit hc in
theorem H9 (l:List α):(iW c l).Perm l:=List.mergeSort_perm l _
omit hc in
theorem sG (l:List α):(iW c l).length=l.length:=(H9 l).length_eq
omit hc in
theorem sH {l:List α}{x:α}:x ∈ iW c l↔x ∈ l:=(H9 l).mem_iff
omit hc in
theorem Wj:iW c []= []:=by simp [iW]
omit hc in
theorem Wl (a:α):iW c [a]= [a]:=by simp [iW]
omit hc in
theorem EM {l:List α} (h:l.length<2):iW c l=l:=by
 match l,h with
 | [], _=>exact Wj
 | [a], _=>exact Wl a
end sort
section once
variable {α:Type} [DecidableEq α]
def ei:α->List α->List α
 | _, []=> []
 |a,b::l=>if b=a then ei a l else b::ei b l
def eC:List α->List α
 | []=> []
 |a::l=>a::ei a l
theorem uj:∀ {l:List α}{a x:α},(x=a∨x ∈ ei a l)↔(x=a∨x ∈ l)
 | [],a,x=>by simp [ei]
 |b::l,a,x=>by
  simp only [ei];split
  ·rename_i h;subst h;rw [uj (l:=l)];simp
  ·have:=uj (l:=l) (a:=b) (x:=x);simp only [List.mem_cons];rw [this]
theorem U6 {l:List α}{x:α}:x ∈ eC l↔x ∈ l:=by
 cases l<;>grind [eC,uj]
theorem Az:∀ (l:List α) (a:α),(ei a l).length<=l.length
 | [],a=>by simp [ei]
 |b::l,a=>by
  simp only [ei];split
  ·have:=Az l a;simp;omega
  ·have:=Az l b;simp;omega
theorem zbD (l:List α):(eC l).length<=l.length:=by
 cases l<;>grind [eC,Az]
theorem AA {c:α->α->Int} (hc:KW c):∀ {l:List α}{a:α},(a::l).Pairwise (λ a b=>E9 c a b=true)->(a::ei a l).Pairwise (λ a b=>c a b<0)
 | [],a, _=>by simp [ei]
 |b::l,a,h=>by
  simp only [ei];rw [List.pairwise_cons] at h;obtain ⟨h1,h2⟩:=h;split
  ·rename_i e;subst e;exact AA hc h2
  ·rename_i e;have ih:=AA hc h2;rw [List.pairwise_cons];refine ⟨λ x hx=> ?_,ih⟩;have hx':x=b∨x ∈ l:=uj.1 (by simpa using hx);have hax:c a x<=0:=by
    have:=h1 x (by simpa using hx');simpa [E9] using this
   have hab:c a b<=0:=by
    have:=h1 b gt;simpa [E9] using this
   have hbx:c b x<=0:=by
    rcases hx' with rfl|hm
    ·have:=(hc.eq x x).2 rfl;omega
    ·rw [List.pairwise_cons] at h2;have:=h2.1 x hm;simpa [E9] using this
   rcases Int.lt_or_eq_of_le hax with h|h
   ·exact h
   ·have ex:=(hc.eq _ _).1 h;subst ex;have:=hc.swap a b;exact absurd ((hc.eq b a).1 ge) e
def bd (c:α->α->Int) (l:List α):List α:=eC (iW c l)
theorem ax {c:α->α->Int}{l:List α}{x:α}:x ∈ bd c l↔x ∈ l:=by rw [bd,U6,sH]
theorem cU {c:α->α->Int} (hc:KW c) (l:List α):(bd c l).Pairwise (λ a b=>c a b<0):=by
 have h:=CM hc l;unfold bd;cases hs:iW c l with
 |nil=>simp [eC]
 |cons a m=>grind [AA,eC]
theorem nK (c:α->α->Int) (l:List α):(bd c l).length<=l.length:=by
 grind [zbD,sG,bd]
omit [DecidableEq α] in
theorem Id {c:α->α->Int} (hc:KW c):∀ {l r:List α},l.Pairwise (λ a b=>c a b<0)->r.Pairwise (λ a b=>c a b<0)->(∀x,x ∈ l↔x ∈ r)->l=r
 | [],r, _, _,h=>by
  cases r with
  |nil=>rfl
  |cons b r=>have:=(h b).2 gt;simp at this
 |a::l, [], _, _,h=>by have:=(h a).1 gt;simp at this
 |a::l,b::r,h1,h2,h=>by
  rw [List.pairwise_cons] at h1 h2;have irr:∀x:α,¬c x x<0:=λ x hx=>by have:=(hc.eq x x).2 rfl;omega
  have ab:a=b:=by
   rcases List.mem_cons.1 ((h a).1 gt) with e|m
   ·exact e
   ·rcases List.mem_cons.1 ((h b).2 gt) with e|m'
    ·exact e.symm
    ·have k1:=h2.1 a m;have k2:=h1.1 b m';have:=hc.swap a b;omega
  subst ab;rw [Id hc h1.2 h2.2 (λ x=> ?_)];constructor
  ·intro hx;rcases List.mem_cons.1 ((h x).1 (List.mem_cons_of_mem _ hx)) with e|m
   ·subst e;exact absurd (h1.1 _ hx) (irr _)
   ·exact m
  ·intro hx;rcases List.mem_cons.1 ((h x).2 (List.mem_cons_of_mem _ hx)) with e|m
   ·subst e;exact absurd (h2.1 _ hx) (irr _)
   ·exact m
theorem ir {c:α->α->Int} (hc:KW c){l r:List α} (hr:r.Pairwise (λ a b=>c a b<0)) (h:∀x,x ∈ l↔x ∈ r):bd c l=r:=
 Id hc (cU hc l) hr (λ x=>by grind [ax])
theorem uI {c:α->α->Int} (hc:KW c){l r:List α} (h:∀x,x ∈ l↔x ∈ r):bd c l=bd c r:=
 ir hc (cU hc r) (λ x=>by grind [ax])
end once
end Go.Av
end
section
open Go Go.Proofs
namespace Go.Av
def U9:List Int:= [0,1,1,1,0, -1, -1, -1]
def Tn:List Int:= [-1, -1,0,1,1,1,0, -1]
def vL (w h:Int) (d:Nat) (c:Nat):Int:=
  if (0<=(c:Int).tmod w+ac U9 d∧(c:Int).tmod w+ac U9 d<w)∧0<=(c:Int).tdiv w+ac Tn d∧(c:Int).tdiv w+ac Tn d<h then ((c:Int).tdiv w+ac Tn d) * w+((c:Int).tmod w+ac U9 d) else -1
def pd (w h:Nat) (d:Nat) (n:Nat):List Int:=(List.range n).map (vL w h d)
def il (w h:Nat) (d:Nat):List (List Int):=(List.range d).map λ d=>pd w h d (w * h)
def jo (d:Nat):List Int:=(List.range d).map λ i:Nat=>Int.tmod ((i:Int)+4) 8
def me (w h:Nat):cg:=⟨w * h,il w h 8,jo 8⟩
theorem B6 (w h d n:Nat):pd w h d (n+1)=pd w h d n++ [vL w h d n]:=by simp [pd,List.range_succ]
theorem I2 (w h d:Nat):il w h (d+1)=il w h d++ [pd w h d (w * h)]:=by simp [il,List.range_succ]
theorem I3 (d:Nat):jo (d+1)=jo d++ [Int.tmod ((d:Int)+4) 8]:=by simp [jo,List.range_succ]
theorem MT (w h:Nat) (hw:1<=w∧w<=8) (hh:1<=h∧h<=8):aq Tryz.prog 129 [.int w, .int h] (.tup [.agg (gR (me w h)), .int 0]):=by
  refine pF Tryz.func129 ?_;have hwh:(w:Int) * h<=64:=by
    have:w * h<=8 * 8:=Nat.mul_le_mul hw.2 hh.2;omega
  have hwh0:(1:Int)<=(w:Int) * h:=by
    have:1 * 1<=w * h:=Nat.mul_le_mul hw.1 hh.1;omega
  obtain ⟨D,hD⟩:∃D:Nat,D=w * h:=⟨_,rfl⟩
  have hD':(w:Int) * h=D:=pi;rw [hD'] at hwh hwh0;have e1:(gR (me w h))= [.int D,fu (il w h 8),aS (jo 8)]:=by simp [gR,me,hD']
  rw [e1];have hdx:∀x ∈ U9, -1<=x∧x<=1:=Wm;have hdy:∀x ∈ Tn, -1<=x∧x<=1:=Wm;have ldx:U9.length=8:=rfl;have ldy:Tn.length=8:=rfl;have edx:U9.map dR= [[.int 0], [.int 1], [.int 1], [.int 1], [.int 0], [.int (-1)], [.int (-1)], [.int (-1)]]:=rfl;have edy:Tn.map dR= [[.int (-1)], [.int (-1)], [.int 0], [.int 1], [.int 1], [.int 1], [.int 0], [.int (-1)]]:=rfl;have hst:∀d c,vL w h d c=vL w h d c:=λ _ _=>rfl;refine J1 hD' ?_;refine DX ?_;refine J1 hD' ?_;refine zg3 (zg5 (α:=Nat) (λ d=>⟨[(0, .int w),(1, .int h),(4, .ref 0 0 3 0 0),(6, .sl 1 0 1 0 8),(7, .sl 2 0 1 0 8),(8, .ref 3 0 3 0 0),(9, .int d)],
      [(0, .rows true 0 3 [[.int 0, .v (.slice none 0 0), .v (.slice none 0 0)]]),(1, .rows true 0 1 (U9.map dR)),(2, .rows true 0 1 (Tn.map dR)),
       (3, .rows true 0 3 [[.int D, .sl 4 d 1 0 d, .sl 5 d 1 0 d]]),(4, .rows true d 1 ((il w h d).map λ l=> [aS l])),(5, .rows true d 1 ((jo d).map dR))],6⟩)
    (λ r d=>d+r=8) ?_ 8 0 ?_) ?_ ?_
  · rintro r d i1 hrec;have lgn:(il w h d).length=d:=by simp [il]
    have lgt:(jo d).length=d:=by simp [jo]
    refine J0 ?_;refine zg4 (λ hd=> ?_) (λ hd=> ?_)<;>simp at hd
    · have hd1:d<U9.length:=by omega
      have hd2:d<Tn.length:=ge;have bx:=hdx _ (am hd1);have by_:=hdy _ (am hd2);have hgs:∀c,vL w h d c=if (0<=(c:Int).tmod w+ac U9 d∧(c:Int).tmod w+ac U9 d<w)∧0<=(c:Int).tdiv w+ac Tn d∧(c:Int).tdiv w+ac Tn d<h then ((c:Int).tdiv w+ac Tn d) * w+((c:Int).tmod w+ac U9 d) else -1:=λ _=>rfl
      refine J0 ?_;refine zg3 (zg5 (α:=Nat) (λ c=>⟨[(0, .int w),(1, .int h),(4, .ref 0 0 3 0 0),(6, .sl 1 0 1 0 8),(7, .sl 2 0 1 0 8),(8, .ref 3 0 3 0 0),(9, .int d),(10, .sl 6 c 1 0 c),(11, .int c)],
          [(0, .rows true 0 3 [[.int 0, .v (.slice none 0 0), .v (.slice none 0 0)]]),(1, .rows true 0 1 (U9.map dR)),(2, .rows true 0 1 (Tn.map dR)),
           (3, .rows true 0 3 [[.int D, .sl 4 d 1 0 d, .sl 5 d 1 0 d]]),(4, .rows true d 1 ((il w h d).map λ l=> [aS l])),(5, .rows true d 1 ((jo d).map dR)),(6, .rows true c 1 ((pd w h d c).map dR))],7⟩)
        (λ s c=>c+s=D) ?_ D 0 ?_) ?_ ?_
      · rintro s c j1 hrec2;have lgr:(pd w h d c).length=c:=by simp [pd]
        refine J1 hD' ?_;refine zg4 (λ hc=> ?_) (λ hc=> ?_)<;>simp at hc
        · have m0:=Int.tmod_nonneg (w:Int) (show (0:Int)<=c by omega);have m1:=Int.tmod_lt_of_pos (c:Int) (show (0:Int)<w by omega);have q0:0<=(c:Int).tdiv w:=Int.tdiv_nonneg ge ge;have q1:(c:Int).tdiv w<=c:=by rw [Int.tdiv_eq_ediv_of_nonneg ge];exact Int.ediv_le_self _ ge
          have hgs:=hgs c;generalize hmv:(c:Int).tmod w=mv at *;generalize hqv:(c:Int).tdiv w=qv at *;generalize hvx:ac U9 d=vx at *;generalize hvy:ac Tn d=vy at *;have hp:0<=qv+vy->qv+vy<h->0<=(qv+vy) * w∧(qv+vy) * w<=64:=λ k1 k2=>
            ⟨Int.mul_nonneg k1 ge,by have:=Int.mul_le_mul (show qv+vy<=8 by omega) (show (w:Int)<=8 by omega) ge ge;omega⟩
          refine J7 hd1 hd2 hmv hqv hD' hvx hvy ?_;refine zg4 (λ hg=> ?_) (λ hg=> ?_)<;>simp at hg
          · rw [if_pos ge] at hgs;have hp:=hp ge ge;generalize hpw:(qv+vy) * (w:Int)=pw at *;refine J1 hpw ?_;refine zg3 (hrec2 (s - 1) ge (c+1) ge) ?_ gt;simp [go_sem,aj,B6,hgs];(first|done|exact zfD)
          · rw [if_neg ge] at hgs;refine J0 ?_;refine zg3 (hrec2 (s - 1) ge (c+1) ge) ?_ gt;simp [go_sem,aj,B6,hgs];(first|done|exact zfD)
        · have hcD:c=w * h:=by omega
          subst hcD;have hgn:=I2 w h d;have hgt:=I3 d;refine J0 ?_;refine zg3 (hrec (r - 1) ge (d+1) ge) ?_ gt;simp [go_sem,aj,hgn,hgt];refine ⟨⟨?_, ?_⟩, ?_⟩
          · refine bJ (.refl _) ?_;refine bg.cons (aY.cons ?_ aY.nil) bg.nil;refine eY.frz rfl ?_ ?_ (zhd ?_)<;>simp [fh,aC,lgr,List.take_of_length_le]
          · rintro r (⟨a, _,rfl⟩|rfl) c hc<;>simp at hc<;>subst hc<;>exact of_eq_true Lv
          · (first|done|exact zfD)
      · simp
      · simp [go_sem,aj,pd]
      · simp
    · have hd8:d=8:=by omega
      subst hd8;refine J0 ?_;refine ⟨?_, ?_⟩<;>(refine eY.frz rfl ?_ ?_ (zhd ?_)<;>simp [dO,lgn,lgt,List.take_of_length_le])
  · simp
  · simp [go_sem,aj,edx,edy,il,jo]
  · simp
def uN (b:cg) (c:Int) (d x:Nat):Int:=if (x:Int)=c∨ac (ac b.next d) x=c then -1 else ac (ac b.next d) x
def iY (b:cg) (c:Int) (d n:Nat):List Int:=(List.range n).map (uN b c d)
def eJ (b:cg) (c:Int) (d:Nat):List (List Int):=(List.range d).map λ d=>iY b c d b.cells.toNat
def km (b:cg) (c:Int):cg:=⟨b.cells,eJ b c b.next.length,b.turn⟩
theorem xg (b:cg) (c:Int) (d n:Nat):iY b c d (n+1)=iY b c d n++ [uN b c d n]:=by simp [iY,List.range_succ]
theorem DW (b:cg) (c:Int) (d:Nat):eJ b c (d+1)=eJ b c d++ [iY b c d b.cells.toNat]:=by simp [eJ,List.range_succ]
theorem FO (b:cg) (hb:c8 b) (c:Int) (h0:0<=c) (h1:c<b.cells):aq Tryz.prog 130 [.agg (gR b), .int c] (.tup [.agg (gR (km b c)), .int 0]):=by
  refine pF Tryz.func130 ?_;obtain ⟨tl,tv,nl,nv,c0,c1,n1⟩:=hb;have e1:(gR (km b c))= [.int b.cells,fu (eJ b c b.next.length),aS b.turn]:=rfl;rw [e1];refine J0 ?_;refine DX ?_;refine J0 ?_;refine zg3 (zg5 (α:=Nat) (λ d=>⟨[(1, .int c),(2, .ref 0 0 3 0 0),(4, .ref 1 0 3 0 0),(6, .ref 9 0 3 0 0),(7, .int d)],
      [(0, .rows true 0 3 [gR b]),(1, .rows true 0 3 [[.int 0, .v (.slice none 0 0), .v (.slice none 0 0)]]),(4, .rows true 1 1 (b.turn.map dR)),
       (9, .rows true 0 3 [[.int b.cells, .sl 11 d 1 0 d, .sl 4 1 1 0 b.turn.length]]),(11, .rows true d 1 ((eJ b c d).map λ l=> [aS l]))],12⟩)
    (λ r d=>d+r=b.next.length) ?_ b.next.length 0 ?_) ?_ ?_
  · rintro r d i1 hrec;have lgn:(eJ b c d).length=d:=by simp [eJ]
    refine J0 ?_;refine zg4 (λ hd=> ?_) (λ hd=> ?_)<;>simp at hd
    · have hlen:=nl _ (am hd);refine J0 ?_;refine zg3 (zg5 (α:=Nat) (λ x=>⟨[(1, .int c),(2, .ref 0 0 3 0 0),(4, .ref 1 0 3 0 0),(6, .ref 9 0 3 0 0),(7, .int d),(8, .sl 12 x 1 0 x),(9, .int x)],
          [(0, .rows true 0 3 [gR b]),(1, .rows true 0 3 [[.int 0, .v (.slice none 0 0), .v (.slice none 0 0)]]),(4, .rows true 1 1 (b.turn.map dR)),
           (9, .rows true 0 3 [[.int b.cells, .sl 11 d 1 0 d, .sl 4 1 1 0 b.turn.length]]),(11, .rows true d 1 ((eJ b c d).map λ l=> [aS l])),(12, .rows true x 1 ((iY b c d x).map dR))],13⟩)
        (λ s x=>x+s=b.cells.toNat) ?_ b.cells.toNat 0 ?_) ?_ ?_
      · rintro s x j1 hrec2;have lgr:(iY b c d x).length=x:=by simp [iY]
        refine J0 ?_;refine zg4 (λ hx=> ?_) (λ hx=> ?_)<;>simp at hx
        · have hxl:x<(ac b.next d).length:=by omega
          have hgs:uN b c d x=if (x:Int)=c∨ac (ac b.next d) x=c then -1 else ac (ac b.next d) x:=rfl
          refine J2 hd hxl ?_;refine zg4 (λ hg=> ?_) (λ hg=> ?_)<;>simp at hg
          · rw [if_pos ge] at hgs;refine J0 ?_;refine zg3 (hrec2 (s - 1) ge (x+1) ge) ?_ gt;simp [go_sem,aj,xg,hgs];(first|done|exact zfD)
          · rw [if_neg ge] at hgs;refine J0 ?_;refine zg3 (hrec2 (s - 1) ge (x+1) ge) ?_ gt;simp [go_sem,aj,xg,hgs];(first|done|exact zfD)
        · have hcD:x=b.cells.toNat:=by omega
          subst hcD;have hgn:=DW b c d;refine J0 ?_;refine zg3 (hrec (r - 1) ge (d+1) ge) ?_ gt;simp [go_sem,aj,hgn];refine ⟨?_, ?_⟩
          · refine bJ (.refl _) ?_;refine bg.cons (aY.cons ?_ aY.nil) bg.nil;refine eY.frz rfl ?_ ?_ (zhd ?_)<;>simp [fh,aC,lgr,List.take_of_length_le]
          grind [Lv]
      · simp
      · simp [go_sem,aj,iY]
      · simp
    · have hd8:d=b.next.length:=by omega
      subst hd8;refine J0 ?_;refine ⟨?_, ?_⟩<;>(refine eY.frz rfl ?_ ?_ (zhd ?_)<;>simp [dO,lgn,List.take_of_length_le])
  · simp
  · simp [go_sem,aj,eJ]
  · simp
theorem BC {w h:Nat} (hw:1<=w∧w<=8) (hh:1<=h∧h<=8):c8 (me w h):=by
 have hwh:w * h<=64:=Nat.mul_le_mul hw.2 hh.2;refine ⟨by simp [me,jo,il], ?_, ?_, ?_, ?_, ?_,by simp [me,il]⟩
 ·grind [me,jo,il]
 ·grind [me,il,pd]
 ·intro l hl x hx;simp only [me,il,List.mem_map,List.mem_range] at hl;obtain ⟨i,hi,rfl⟩:=hl;simp only [pd,List.mem_map,List.mem_range] at hx;obtain ⟨c,hc,rfl⟩:=hx;simp only [me,vL];split
  ·rename_i hg;obtain ⟨⟨g1,g2⟩,g3,g4⟩:=hg;generalize (c:Int).tdiv w+ac Tn i=y at *;have k1:0<=y * w:=Int.mul_nonneg g3 ge;have k2:y * w<=(h - 1) * w:=Int.mul_le_mul_of_nonneg_right ge ge;grind
  ·omega
 all_goals grind [me]
theorem EZ {b:cg} (hb:c8 b) (c:Int):c8 (km b c):=by
 have hl:(eJ b c b.next.length).length=b.next.length:=by simp [eJ]
 have hc0:=hb.c0;refine ⟨by simp only [km,hl];exact hb.tl, ?_, ?_, ?_,hb.c0,hb.c1,by simp only [km,hl];exact hb.n1⟩
 ·intro t ht;simp only [km,hl];exact hb.tv t ht
 ·grind [km,eJ,iY]
 ·intro l hl x hx;simp only [km,eJ,List.mem_map,List.mem_range] at hl;obtain ⟨i,hi,rfl⟩:=hl;simp only [iY,List.mem_map,List.mem_range] at hx;obtain ⟨k,hk,rfl⟩:=hx;simp only [km,uN];split
  ·omega
  ·have h1:=hb.nl _ (am hi);exact hb.nv _ (am hi) _ (am ge)
def pO (w h cut:Int):cg:=
 if 200<cut then km (me (1+w.tmod 3).toNat (1+h.tmod 3).toNat) (cut.tmod (me (1+w.tmod 3).toNat (1+h.tmod 3).toNat).cells) else me (1+w.tmod 3).toNat (1+h.tmod 3).toNat
theorem BD {w h:Int} (hw:0<=w) (hh:0<=h) (cut:Int):c8 (pO w h cut):=by
 grind [BC,pO,EZ]
theorem MV (w h cut:Int) (hw:0<=w∧w<=255) (hh:0<=h∧h<=255) (hc:0<=cut∧cut<=255):aq Tryz.prog 76 [.v (.int .u8 w), .v (.int .u8 h), .v (.int .u8 cut)] (.agg (gR (pO w h cut))):=by
 refine pF Tryz.func76 ?_;have a0:=Int.tmod_nonneg 3 hw.1;have a1:=Int.tmod_lt_of_pos w (show (0:Int)<3 by decide);have b0:=Int.tmod_nonneg 3 hh.1;have b1:=Int.tmod_lt_of_pos h (show (0:Int)<3 by decide);obtain ⟨W,hW⟩:∃W:Nat,1+w.tmod 3=W:=⟨(1+w.tmod 3).toNat,ge⟩
 obtain ⟨H,hH⟩:∃H:Nat,1+h.tmod 3=H:=⟨(1+h.tmod 3).toNat,ge⟩
 have e:pO w h cut=if 200<cut then km (me W H) (cut.tmod (me W H).cells) else me W H:=by grind [pO]
 rw [e];have hG:=MT W H ge ge;have hok:c8 (me W H):=BC ge ge;have hcl:1<=(me W H).cells:=by
  have:1 * 1<=W * H:=Nat.mul_le_mul ge ge;grind [me]
 generalize me W H=b at *;have m0:=Int.tmod_nonneg b.cells hc.1;have m1:=Int.tmod_lt_of_pos cut (show (0:Int)<b.cells by omega);have hWo:=FO b hok (cut.tmod b.cells) m0 m1;have hel:(gR b).length=3:=rfl;have hbl:∀n,(∀c' ∈ gR b,aN n c')=True:=λ n=>no;refine J2 hW hH ?_;refine aP hG ?_;refine J0 ?_;refine zg4 (λ hcut=> ?_) (λ hcut=> ?_)<;>simp at hcut
 ·rw [if_pos hcut];refine J0 ?_;refine dP hWo ?_;exact K0
 ·rw [if_neg ge];exact K0
def bE (p:List (Int×Int)):AV:= .lst 2 (p.map dC)
variable {n:Nat}
theorem zeZ {l:List (Int×Int)}:(∀r ∈ l.map dC,∀c ∈ r,aN n c)=True:=by
  refine eq_true ?_;intro r hr c hc;obtain ⟨x, _,rfl⟩:=List.mem_map.1 hr;simp only [dC,List.mem_cons,List.mem_nil_iff,or_false] at hc;rcases hc with rfl|rfl<;>exact .v _
theorem Gh {l:List (Int×Int)}:aN n (.lst 2 (l.map dC))=True:=by rw [jd,zeZ]
attribute [go_sem] bE
attribute [go_sem high] Gh
theorem Ui (l:List Int) (i:Nat) (hi:i<=1000) (hl:l.length<=9223372036854775807) (hv:∀x ∈ l,0<=x∧x<=255):aq Tryz.prog 180 [JF l, .int i] (.int (if i<l.length then ac l i else 0)):=by
  refine pF Tryz.func180 ?_;refine J0 ?_;refine zg4 (λ h=> ?_) (λ h=> ?_)<;>simp at h
  · have hb:=hv _ (am h);rw [if_pos h];exact K1 h
  · rw [if_neg ge];exact K0
def Fa (d e k r:Int):List (List (Int×Int)):=
  [[(1,d),(3,0)], [(1,d),(4,0),(6,0)], [(2,d)], [(2,d),(4,0),(6,0)], [(1,d),(4,0),(6,0),(1,d)], [(1,d),(1,e)], [(1,d),(7,d)], [(1,d),(3,0),(8,k)],
   [(9,r),(1,d),(1,d),(10,r)], [(1,d),(5,0),(1,d),(3,0)], [(10,r),(1,d)], [(1,d),(4,0),(6,0),(1,(d+4).tmod 8)], [(1,d),(4,0),(6,0),(1,e),(4,0),(6,0)], [(2,d),(5,0),(1,d)], [(1,d),(4,0),(6,0),(8,k)], [(1,d),(7,d),(1,e)]]
theorem Qg (a b c d e:Int) (hv:∀x ∈ [a,b,c,d,e],0<=x∧x<=255):aq Tryz.prog 132 [JF [a,b,c,d,e]] (bE (ac (Fa (b.tmod 8) (c.tmod 8) (d.tmod 6) (e.tmod 4)) (a.tmod 16).toNat)):=by
  refine pF Tryz.func132 ?_;have hA:=λ (i:Nat) (hi:i<5)=>Ui [a,b,c,d,e] i ge gt hv;have h0:=hA 0 ge;have h1:=hA 1 ge;have h2:=hA 2 ge;have h3:=hA 3 ge;have h4:=hA 4 ge;clear hA;simp [ac] at h0 h1 h2 h3 h4 hv;obtain ⟨v0,v1,v2,v3,v4⟩:=hv;have b0:=Int.tmod_nonneg 8 v1.1;have b1:=Int.tmod_lt_of_pos b (show (0:Int)<8 by decide);have a0:=Int.tmod_nonneg 16 v0.1;have a1:=Int.tmod_lt_of_pos a (show (0:Int)<16 by decide);refine J0 ?_;refine aP h1 ?_;refine J0 ?_;refine aP h2 ?_;refine J0 ?_;refine aP h3 ?_;refine J0 ?_;refine aP h4 ?_;generalize hbv:b.tmod 8=B at *;generalize hcv:c.tmod 8=C at *;generalize hdv:d.tmod 6=D at *;generalize hev:e.tmod 4=E at *;refine J4 hbv hcv hdv hev ?_;refine aP h0 ?_;refine J0 ?_;obtain ⟨i,hi⟩:∃i:Nat,a.tmod 16=i:=⟨(a.tmod 16).toNat,ge⟩
  rw [hi] at a0 a1 ⊢;rcases (show i=0∨i=1∨i=2∨i=3∨i=4∨i=5∨i=6∨i=7∨i=8∨i=9∨i=10∨i=11∨i=12∨i=13∨i=14∨i=15 by omega) with rfl|rfl|rfl|rfl|rfl|rfl|rfl|rfl|rfl|rfl|rfl|rfl|rfl|rfl|rfl|rfl<;>
    (simp [ac,mZ,Fa,dC];refine eY.frz rfl ?_ ?_ (zhd ?_)<;>simp [dO])
def gp (dirs kinds rights:Int) (x:Int×Int):Option (Int×Int):=
 if x.1=1∨x.1=2∨x.1=7 then some (x.1,x.2.tmod dirs) else if x.1=8 then some (x.1,x.2.tmod kinds)
 else if x.1=9∨x.1=10 then (if rights=0 then none else some (x.1,x.2.tmod rights)) else some x
def Vi (dirs kinds rights:Int) (p:List (Int×Int)):List (Int×Int):=if p.filterMap (gp dirs kinds rights)= [] then [(3,0)] else p.filterMap (gp dirs kinds rights)
theorem Tq {α β:Type} [Inhabited α] (f:α->Option β) (l:List α) (j:Nat) (h:j<l.length):(l.take (j+1)).filterMap f=(l.take j).filterMap f++(f (ac l j)).toList:=by
 grind [List.take_add_one,ac]
theorem Qf (p:List (Int×Int)) (hp:p.length<=1048576) (dirs kinds rights:Int) (hd:1<=dirs) (hk:1<=kinds) (hr:0<=rights):
  aq Tryz.prog 131 [bE p, .int dirs, .int kinds, .int rights] (bE (Vi dirs kinds rights p)):=by
 refine pF Tryz.func131 ?_;refine J0 ?_;refine zg3 (zg5 (α:=Nat×List (Int×Int)) (λ a=>⟨[(0,bE p),(1, .int dirs),(2, .int kinds),(3, .int rights),(9, .sl 0 a.2.length 2 0 a.2.length),(10, .int a.1)], [(0, .rows true a.2.length 2 (a.2.map dC))],1⟩)
  (λ d a=>a.1+d=p.length∧a.2=(p.take a.1).filterMap (gp dirs kinds rights)∧a.2.length<=a.1) ?_ p.length (0, []) ?_) ?_ ?_
 ·rintro d ⟨j,out⟩ ⟨i1,i2,i3⟩ hrec;simp only at i1 i2 i3;refine J0 ?_;refine zg4 (λ hj=> ?_) (λ hj=> ?_)<;>simp at hj
  ·have hs:=Tq (gp dirs kinds rights) p j hj;rw [<- i2] at hs;generalize hx:ac p j=x at *;obtain ⟨op,n⟩:=x;have hgo:∀y,gp dirs kinds rights (op,n)=some y->out++ [y]=(p.take (j+1)).filterMap (gp dirs kinds rights)∧(out++ [y]).length<=j+1:=λ y hy=>pi;have hbel:∀y:Int×Int,∀r ∈ (out++ [y]).map dC,∀c ∈ r,aN 1 c:=λ y=>of_eq_true zeZ;rcases (show (op=1∨op=2∨op=7)∨op=8∨(op=9∨op=10)∨(op≠1∧op≠2∧op≠7∧op≠8∧op≠9∧op≠10) by omega) with c1|c1|c1|⟨c1,c2,c3,c4,c5,c6⟩
   ·have hf:gp dirs kinds rights (op,n)=some (op,n.tmod dirs):=by grind [gp]
    obtain ⟨k1,k2⟩:=hgo _ hf;have hb:=hbel (op,n.tmod dirs);rcases c1 with rfl|rfl|rfl<;>
    ·refine J2 hj hx ?_;refine zg3 (hrec (d - 1) ge (j+1,out++ [(_,n.tmod dirs)]) ⟨ge,k1,k2⟩) ?_ gt;simp [go_sem,aj] at hb ⊢;grind
   ·have hf:gp dirs kinds rights (op,n)=some (op,n.tmod kinds):=by grind [gp]
    obtain ⟨k1,k2⟩:=hgo _ hf;have hb:=hbel (op,n.tmod kinds);subst c1;refine J2 hj hx ?_;refine zg3 (hrec (d - 1) ge (j+1,out++ [(_,n.tmod kinds)]) ⟨ge,k1,k2⟩) ?_ gt;simp [go_sem,aj] at hb ⊢;grind
   ·by_cases hr0:rights=0
    ·have hf:gp dirs kinds rights (op,n)=none:=by grind [gp]
     rw [hf,Option.toList_none,List.append_nil] at hs;have hb:=hbel (op,n);subst hr0;rcases c1 with rfl|rfl<;>
     ·refine J2 hj hx ?_;refine zg3 (hrec (d - 1) ge (j+1,out) ⟨ge,hs.symm,pi⟩) ?_ gt;simp [go_sem,aj];grind [dC]
    ·have hf:gp dirs kinds rights (op,n)=some (op,n.tmod rights):=by grind [gp]
     obtain ⟨k1,k2⟩:=hgo _ hf;have hb:=hbel (op,n.tmod rights);rcases c1 with rfl|rfl<;>
     ·refine J3 hj hx hr0 ?_;refine zg3 (hrec (d - 1) ge (j+1,out++ [(_,n.tmod rights)]) ⟨ge,k1,k2⟩) ?_ gt;simp [go_sem,aj] at hb ⊢;grind
   ·have hf:gp dirs kinds rights (op,n)=some (op,n):=by grind [gp]
    obtain ⟨k1,k2⟩:=hgo _ hf;have hb:=hbel (op,n);refine J8 hj hx c1 c2 c3 c4 c5 c6 ?_;refine zg3 (hrec (d - 1) ge (j+1,out++ [(op,n)]) ⟨ge,k1,k2⟩) ?_ gt;simp [go_sem,aj] at hb ⊢;grind
  ·have hout:Vi dirs kinds rights p=if out= [] then [(3,0)] else out:=by
    grind [Vi]
   rw [hout];refine J0 ?_;refine zg4 (λ ho=> ?_) (λ ho=> ?_)<;>simp at ho
   ·rw [if_pos ho];refine J0 ?_;refine eY.frz rfl ?_ ?_ (zhd ?_)<;>simp [dO]
   ·rw [if_neg ho];refine J0 ?_;refine eY.frz rfl ?_ ?_ (zhd ?_)<;>simp [dO,List.take_of_length_le]
 ·simp
 ·simp [go_sem,aj]
 ·simp
def yu (n dirs kinds rights:Int):List (Int×Int):=
 Vi dirs kinds rights (ac (Fa ((n.tdiv 16).tmod 8) ((n.tdiv 16+n.tmod 5).tmod 8) ((n.tdiv 3).tmod 6) (n.tmod 4)) (n.tmod 16).toNat)
theorem zcn (d e k r:Int) (i:Nat):(ac (Fa d e k r) i).length<=6:=by
 rcases Nat.lt_or_ge i 16 with h|h
 ·have:∀l ∈ Fa d e k r,l.length<=6:=by simp [Fa]
  exact this _ (am h)
 ·have:ac (Fa d e k r) i= []:=by
   unfold ac;rw [List.getD_eq_getElem?_getD,List.getElem?_eq_none (by exact h)];rfl
  grind
theorem ue (n dirs kinds rights:Int) (hn:0<=n∧n<=255) (hd:1<=dirs) (hk:1<=kinds) (hr:0<=rights):
  aq Tryz.prog 77 [.v (.int .u8 n), .int dirs, .int kinds, .int rights] (bE (yu n dirs kinds rights)):=by
 refine pF Tryz.func77 ?_;have q0:0<=n.tdiv 16∧n.tdiv 16<=15:=pi;have q1:0<=n.tdiv 3∧n.tdiv 3<=255:=pi;have m0:=Int.tmod_nonneg 5 hn.1;have m1:=Int.tmod_lt_of_pos n (show (0:Int)<5 by decide);have hL:=Qg n (n.tdiv 16) (n.tdiv 16+n.tmod 5) (n.tdiv 3) n pi;unfold yu;have hpl:=zcn ((n.tdiv 16).tmod 8) ((n.tdiv 16+n.tmod 5).tmod 8) ((n.tdiv 3).tmod 6) (n.tmod 4) (n.tmod 16).toNat;generalize ac (Fa ((n.tdiv 16).tmod 8) ((n.tdiv 16+n.tmod 5).tmod 8) ((n.tdiv 3).tmod 6) (n.tmod 4)) (n.tmod 16).toNat=p at *;have hF:=Qf p ge dirs kinds rights hd hk hr;generalize hqa:n.tdiv 16=qa at *;generalize hqb:n.tdiv 3=qb at *;generalize hmc:n.tmod 5=mc at *;refine J3 hqa hqb hmc ?_;refine zha [0] hL ?_ no ?_
 ·refine aY.cons ?_ aY.nil;refine eY.frz rfl ?_ ?_ (zhd ?_)<;>simp [io,kq,aC,AH]
 ·refine J0 ?_;refine aP hF ?_;exact K0
theorem C7 (n a b:Int):aq Tryz.prog 177 [.int n, .int a, .int b] (.v (.bool (decide (a<=n∧n<=b)))):=by
 refine pF Tryz.func177 ?_;exact K0
def aA (c:Int):Int×Int:=if 1<=c∧c<=12 then ((c - 1).tdiv 2,(c - 1).tmod 2) else (-1, -1)
theorem vf (c:Int):aq Tryz.prog 124 [.int c] (.agg [.int (aA c).1, .int (aA c).2]):=by
 refine pF Tryz.func124 ?_;refine J0 ?_;refine aP (C7 c 1 12) ?_;by_cases h:1<=c∧c<=12
 ·have e:aA c=((c - 1).tdiv 2,(c - 1).tmod 2):=by grind [aA]
  have q:(c - 1).tdiv 2=(c - 1) / 2:=Int.tdiv_eq_ediv_of_nonneg ge;rw [e];exact K2 h q
 ·have e:aA c=(-1, -1):=by grind [aA]
  rw [e];exact K1 h
def gQ (k s:Int):Int:=if (0<=k∧k<=5)∧0<=s∧s<=1 then 2 * k+1+s else 0
theorem uf (k s:Int):aq Tryz.prog 126 [.int k, .int s] (.int (gQ k s)):=by
 refine pF Tryz.func126 ?_;refine J0 ?_;refine aP (C7 k 0 5) ?_;refine J0 ?_;refine zhb _ (λ _=>C7 s 0 1) no ?_;refine J0 ?_;refine zg4 (λ h=> ?_) (λ h=> ?_)<;>simp at h
 ·have e:gQ k s=0:=by grind [gQ]
  rw [e];exact K0
 ·have e:gQ k s=2 * k+1+s:=by grind [gQ]
  rw [e];refine J0 ?_;grind [zhg]
structure dM where
 p:aa
 kind:Int
 cursor:Int
 took:Bool
 deriving DecidableEq
structure ck where
 pos:aa
 took:Bool
 deriving DecidableEq
instance:Inhabited dM:=⟨⟨default,0,0,false⟩⟩
instance:Inhabited ck:=⟨⟨default,false⟩⟩
def bC (s:dM):List AV:= [aS s.p.at_,aS s.p.h0,aS s.p.h1, .int s.p.rights, .int s.p.side, .int s.kind, .int s.cursor, .v (.bool s.took)]
def fK (l:List dM):AV:= .lst 8 (l.map bC)
def cu (o:ck):List AV:= [aS o.pos.at_,aS o.pos.h0,aS o.pos.h1, .int o.pos.rights, .int o.pos.side, .v (.bool o.took)]
def oj (l:List ck):AV:= .lst 6 (l.map cu)
attribute [go_sem] bC fK cu oj
theorem Lx {l:List dM}:(∀r ∈ l.map bC,∀c ∈ r,aN n c)=True:=by
 refine eq_true ?_;intro r hr c hc;obtain ⟨x, _,rfl⟩:=List.mem_map.1 hr;revert c;simp [go_sem]
theorem Ly {l:List dM}:aN n (.lst 8 (l.map bC))=True:=by rw [jd,Lx]
theorem Lw {l:List ck}:(∀r ∈ l.map cu,∀c ∈ r,aN n c)=True:=by
 refine eq_true ?_;intro r hr c hc;obtain ⟨x, _,rfl⟩:=List.mem_map.1 hr;revert c;simp [go_sem]
theorem zdJ {l:List ck}:aN n (.lst 6 (l.map cu))=True:=by rw [jd,Lw]
attribute [go_sem high] Ly zdJ
def aa.hand (p:aa) (side:Int):List Int:=if side=0 then p.h0 else p.h1
def aa.withHand (p:aa) (side:Int) (l:List Int):aa:=if side=0 then { p with h0:=l} else { p with h1:=l}
structure jN (dirs kinds rights:Int) (x:Int×Int):Prop where
 op:1<=x.1∧x.1<=10
 dir:x.1=1∨x.1=2∨x.1=7->0<=x.2∧x.2<dirs
 zero:x.1=3∨x.1=4∨x.1=5∨x.1=6->x.2=0
 kind:x.1=8->0<=x.2∧x.2<kinds
 right:x.1=9∨x.1=10->0<=x.2∧x.2<rights
def cc (p:List (Int×Int)) (op:Int):Nat:=p.countP (λ x=>x.1==op)
structure uS (dirs kinds rights:Int) (p:List (Int×Int)):Prop where
 ne:1<=p.length
 len:p.length<=8
 st:∀x ∈ p,jN dirs kinds rights x
 take:cc p 6<=2
 push:cc p 7<=1
 become:cc p 8<=1
structure qN (cells kinds:Int) (c:Int×Int×Int×Int):Prop where
 cond:c.1=1∨c.1=2∨c.1=3
 kind:0<=c.2.1∧c.2.1<kinds
 n:0<=c.2.2.1∧(c.1=2->c.2.2.1<cells)∧(c.1=1->c.2.2.1=0)∧c.2.2.1<=64
 then_:1<=c.2.2.2∧c.2.2.2<=3
 few:c.1=3->c.2.1=0
structure bN (g:ae):Prop where
 board:c8 g.board
 c1:1<=g.cells
 c9:g.cells<=9
 d1:1<=g.next.length
 d8:g.next.length<=8
 turn:∀d,d<g.turn.length->ac g.turn (ac g.turn d).toNat=d
 k1:1<=g.kinds.length
 k6:g.kinds.length<=6
 pn:∀k ∈ g.kinds,k.progs.length<=8
 pr:∀k ∈ g.kinds,∀p ∈ k.progs,uS g.next.length g.kinds.length g.rights p
 r0:0<=g.rights
 r4:g.rights<=4
 cl:∀c ∈ g.clauses,qN g.cells g.kinds.length c
 cn:g.clauses.length<=6
 bl:1<=g.blocked∧g.blocked<=3
 en:1<=g.endless∧g.endless<=3
def dQ (s:dM):List Int->List dM
 | []=> []
 |c::l=>{ s with cursor:=c}::(if ac s.p.at_ c.toNat=0 then dQ s l else [])
def tQ (b:cg) (s:dM) (n:Int):List dM:=dQ s (uy b s.p.side n s.cursor)
def clr (p:aa) (c:Int):aa:={ p with at_:=p.at_.set c.toNat 0}
def wi (g:ae) (s:dM):List dM:=
 let m:=aA (ac s.p.at_ s.cursor.toNat)
 if m.1<0∨m.2=s.p.side then [] else
 if (ac g.kinds m.1.toNat).keep=true then
  if 8<ac (s.p.hand s.p.side) m.1.toNat+1 then []
  else [{ s with p:=(clr s.p s.cursor).withHand s.p.side ((s.p.hand s.p.side).set m.1.toNat (ac (s.p.hand s.p.side) m.1.toNat+1)),took:=true}]
 else [{ s with p:=clr s.p s.cursor,took:=true}]
def v7 (g:ae) (s:dM) (n:Int):List dM:=
 let to:=sb g.board s.p.side n s.cursor
 if ac s.p.at_ s.cursor.toNat=0∨to<0∨ac s.p.at_ to.toNat≠0 then []
 else [{ s with p:={ s.p with at_:=(s.p.at_.set to.toNat (ac s.p.at_ s.cursor.toNat)).set s.cursor.toNat 0}}]
def dF (s:dM) (b:Bool):List dM:=if b then [s] else []
def di (g:ae) (s:dM) (x:Int×Int):List dM:=
 let m:=aA (ac s.p.at_ s.cursor.toNat)
 if x.1=1 then dF { s with cursor:=sb g.board s.p.side x.2 s.cursor} (decide (0<=sb g.board s.p.side x.2 s.cursor))
 else if x.1=2 then tQ g.board s x.2
 else if x.1=3 then dF s (decide (m.1<0))
 else if x.1=4 then dF s (decide (0<=m.1∧m.2≠s.p.side))
 else if x.1=5 then dF s (decide (0<=m.1∧m.2=s.p.side))
 else if x.1=6 then wi g s
 else if x.1=7 then v7 g s x.2
 else if x.1=8 then [{ s with kind:=x.2}]
 else if x.1=9 then dF s (decide (sT .i64 (s.p.rights.fdiv (2 ^ x.2.toNat)) 1=1))
 else if x.1=10 then [{ s with p:={ s.p with rights:=mO .i64 s.p.rights (2 ^ x.2.toNat)}}]
 else [s]
def ii (l:List dM) (more:List dM):List dM:=more.foldl (λ l s=>if s ∈ l then l else l++ [s]) l
def lJ (g:ae) (now:List dM) (x:Int×Int):List dM:=now.foldl (λ next s=>ii next (di g s x)) []
def kS (p:aa) (cell:Int):dM:=⟨clr p cell,(aA (ac p.at_ cell.toNat)).1,cell,false⟩
def lg (g:ae) (p:aa) (cell:Int) (prog:List (Int×Int)):List dM:=prog.foldl (lJ g) [kS p cell]
def dz (g:ae) (p:aa) (cell i:Int):List (Int×Int):=ac (ac g.kinds (aA (ac p.at_ cell.toNat)).1.toNat).progs i.toNat
def iC (side:Int) (s:dM):Option ck:=
 if ac s.p.at_ s.cursor.toNat=0 then some ⟨{ s.p with at_:=s.p.at_.set s.cursor.toNat (gQ s.kind side),side:=1 - side},s.took⟩ else none
def na (a b:ck):Int:=RE (bi a.pos b.pos) (dy (if a.took then 1 else 0) (if b.took then 1 else 0))
theorem gH:KW na:=by
 have h:KW (λ (a b:Bool)=>dy (if a then 1 else 0) (if b then 1 else 0)):=
  wt.pull (λ b:Bool=>if b then (1:Int) else 0) (λ a b=>by grind)
 exact (bp.prod h).pull (λ o:ck=>(o.pos,o.took)) (λ a b e=>by cases a;simp_all)
def Ep (a b:ck):Bool:=decide (bi a.pos b.pos<0)||(decide (bi a.pos b.pos=0) && !a.took && b.took)
theorem Ho (a b:ck):Ep a b=decide (na a b<0):=by
 grind [Ep,na,RE,dy]
def gJ (x:ck):List ck->List ck
 | []=> [x]
 |y::l=>if Ep y x then y::gJ x l else if Ep x y then x::y::l else y::l
theorem ut {x z:ck}:∀ {l:List ck},z ∈ gJ x l↔z=x∨z ∈ l
 | []=>by simp [gJ]
 |y::l=>by
  simp only [gJ];split
  ·rw [List.mem_cons,ut,List.mem_cons];exact ⟨λ h=>X0,λ h=>X0⟩
  ·split
   ·simp
   ·rename_i h1 h2;rw [Ho] at h1 h2;have:=gH.swap x y;have e:=(gH.eq x y).1 (by simp at h1 h2;omega);subst e;simp
theorem He {x:ck}:∀ {l:List ck},l.Pairwise (λ a b=>na a b<0)->(gJ x l).Pairwise (λ a b=>na a b<0)
 | [], _=>by simp [gJ]
 |y::l,h=>by
  rw [List.pairwise_cons] at h;simp only [gJ];split
  ·rename_i h1;rw [Ho] at h1;rw [List.pairwise_cons];refine ⟨λ z hz=> ?_,He h.2⟩;rcases ut.1 hz with rfl|hz
   ·simpa using h1
   ·exact h.1 z hz
  ·split
   ·rename_i h1;rw [Ho] at h1;have hxy:na x y<0:=XY;refine List.pairwise_cons.2 ⟨λ z hz=> ?_,List.pairwise_cons.2 h⟩;rcases List.mem_cons.1 hz with rfl|hz
    ·exact hxy
    ·have hyz:=h.1 z hz;have t:=gH.tr x y z ge ge;rcases Int.lt_or_eq_of_le t with h|h
     ·exact h
     ·have e:=(gH.eq _ _).1 h;subst e;have:=gH.swap x y;omega
   ·exact List.pairwise_cons.2 h
theorem wG:∀ (l acc:List ck),acc.Pairwise (λ a b=>na a b<0)->
  (l.foldl (λ a x=>gJ x a) acc).Pairwise (λ a b=>na a b<0)∧∀z,z ∈ l.foldl (λ a x=>gJ x a) acc↔z ∈ l∨z ∈ acc
 | [],acc,h=>⟨h,λ z=>gt⟩
 |x::l,acc,h=>by
  obtain ⟨h1,h2⟩:=wG l (gJ x acc) (He h);refine ⟨h1,λ z=> ?_⟩;rw [List.foldl_cons,h2,ut,List.mem_cons];exact ⟨λ h=>X0,λ h=>by rcases h with (h|h)|h<;>simp [h]⟩
theorem OI (l:List ck):l.foldl (λ a x=>gJ x a) []=bd na l:=
 (ir gH (wG l [] gt).1 (λ z=>by simp_all [wG])).symm
def gG (g:ae) (p:aa) (cell i:Int):List ck:=bd na ((lg g p cell (dz g p cell i)).filterMap (iC p.side))
def qW (g:ae) (p:aa) (k c:Nat):Option aa:=
 if ac (p.hand p.side) k=0∨ac p.at_ c≠0 then none
 else some {({ p with at_:=p.at_.set c (gQ k p.side)}.withHand p.side ((p.hand p.side).set k (ac (p.hand p.side) k - 1))) with side:=1 - p.side}
def x7 (g:ae) (p:aa):List aa:=(List.range g.kinds.length).flatMap λ k=>(List.range p.at_.length).filterMap λ c=>qW g p k c
def fJ (g:ae) (p:aa):List aa:=bd bi (x7 g p)
def pK (p:aa) (side kind:Int) (c:Int):Bool:=decide (0<=(aA c).1) && decide ((aA c).2=side) && (decide (kind<0)||decide ((aA c).1=kind))
def Cm (p:aa) (side kind:Int):Nat:=p.at_.countP (pK p side kind)
def nk (c:Int×Int×Int×Int) (p:aa):Bool:=
 if c.1=1 then decide (Cm p p.side c.2.1=0)
 else if c.1=2 then decide (ac p.at_ c.2.2.1.toNat=gQ c.2.1 (1 - p.side))
 else decide ((Cm p p.side (-1):Int)<=c.2.2.1)
def cq (g:ae) (p:aa):Int:=match g.clauses.findIdx? (λ c=>nk c p) with|some i=>(i:Int)|none=> -1
def lF (g:ae) (p:aa) (c:Nat):List ck:=
 if 0<=(aA (ac p.at_ c)).1∧(aA (ac p.at_ c)).2=p.side then
  (List.range (ac g.kinds (aA (ac p.at_ c)).1.toNat).progs.length).flatMap λ (i:Nat)=>gG g p c i
 else []
def kf (g:ae) (p:aa):List ck:=(List.range p.at_.length).flatMap (lF g p)
def iQ (g:ae) (p:aa):Bool:=g.must && (kf g p).any (·.took)
def kM (g:ae) (p:aa):List aa:=((kf g p).filter λ o=> !iQ g p||o.took).map (·.pos)++(if iQ g p then [] else fJ g p)
def an (g:ae) (p:aa):List aa:=if 0<=cq g p then [] else bd bi (kM g p)
structure rM where
 w:Int
 h:Int
 cut:Int
 k0:List Int
 k1:List Int
 c:List (Int×Int×Int)
 f0:Int
 f1:Int
 f2:Int
 f3:Int
 f4:Int
 f5:Int
def U8 (n:Int):Prop:=0<=n∧n<=255
structure Jj (x:rM):Prop where
 w:U8 x.w
 h:U8 x.h
 cut:U8 x.cut
 k0:∀n ∈ x.k0,U8 n
 k1:∀n ∈ x.k1,U8 n
 c:∀t ∈ x.c,U8 t.1∧U8 t.2.1∧U8 t.2.2
 f0:U8 x.f0
 f1:U8 x.f1
 f2:U8 x.f2
 f3:U8 x.f3
 f4:U8 x.f4
 f5:U8 x.f5
def N8 (c:Int×Int×Int):List AV:= [.v (.int .u8 c.1), .v (.int .u8 c.2.1), .v (.int .u8 c.2.2)]
def lY (x:rM):List AV:= [.v (.int .u8 x.w), .v (.int .u8 x.h), .v (.int .u8 x.cut),JF x.k0,JF x.k1, .lst 3 (x.c.map N8),
 .v (.int .u8 x.f0), .v (.int .u8 x.f1), .v (.int .u8 x.f2), .v (.int .u8 x.f3), .v (.int .u8 x.f4), .v (.int .u8 x.f5)]
attribute [go_sem] N8 lY
variable {l:List (Int×Int×Int)}
theorem zbe :(∀r ∈ l.map N8,∀c ∈ r,aN n c)=True:=by
 refine eq_true ?_;intro r hr c hc;obtain ⟨x, _,rfl⟩:=List.mem_map.1 hr;revert c;simp [go_sem]
theorem zdH :aN n (.lst 3 (l.map N8))=True:=by rw [jd,zbe]
theorem zbg {l:List kT}:(∀r ∈ l.map cH,∀c ∈ r,aN n c)=True:=by
 refine eq_true ?_;intro r hr c hc;obtain ⟨x, _,rfl⟩:=List.mem_map.1 hr;simp only [cH,List.mem_cons,List.not_mem_nil,or_false] at hc;rcases hc with rfl|rfl|rfl
 ·exact .v _
 ·refine .lst λ r hr c hc=> ?_;grind [Gh]
 ·exact .v _
theorem zfz {l:List kT}:aN n (.lst 3 (l.map cH))=True:=by rw [jd,zbg]
theorem Qx {l:List (Int×Int×Int×Int)}:(∀r ∈ l.map cd,∀c ∈ r,aN n c)=True:=by
 refine eq_true ?_;intro r hr c hc;obtain ⟨x, _,rfl⟩:=List.mem_map.1 hr;revert c;simp [go_sem]
theorem zdI {l:List (Int×Int×Int×Int)}:aN n (.lst 4 (l.map cd))=True:=by rw [jd,Qx]
theorem Qy {l:List (List (Int×Int))}:(∀r ∈ l.map (λ p=> [bE p]),∀c ∈ r,aN n c)=True:=by
 grind [Gh,bE]
theorem zdL {l:List (List (Int×Int))}:aN n (.lst 1 (l.map (λ p=> [bE p])))=True:=by rw [jd,Qy]
attribute [go_sem high] zdH zfz zdI zdL
attribute [go_sem ↓] zbe zbg Qx Qy Jn S5 Lx Lw List.forall_mem_append
def xa:ByteArray:=⟨#[97]⟩
def zX:ByteArray:=⟨#[98,101,101]⟩
def Gk (f:Int) (i:Nat):Bool:=decide (sT .u8 (f.fdiv (2 ^ i)) 1=1)
def mj (x:rM):Nat:=if x.k1= [] then 1 else 2
def rM.board (x:rM):cg:=pO x.w x.h x.cut
def rM.rights (x:rM):Int:=x.f0.tmod 3
def rM.ks (x:rM) (i:Nat):List Int:=if i=0 then x.k0 else x.k1
def rR (x:rM) (i:Nat):kT:=
 ⟨if i=0 then xa else zX,((x.ks i).take 4).map (λ n=>yu n x.board.next.length (mj x) x.rights),Gk x.f2 i⟩
def fC (cells kinds:Int) (c:Int×Int×Int):Int×Int×Int×Int:=
 (1+c.1.tmod 3,(if 1+c.1.tmod 3≠3 then c.2.1.tmod kinds else 0),(if 1+c.1.tmod 3=2 then c.2.2.tmod cells else if 1+c.1.tmod 3=3 then c.2.2.tmod 3 else 0),1+(c.1.tdiv 4).tmod 3)
def jZ (x:rM):ae:=
 { cells:=x.board.cells,next:=x.board.next,turn:=x.board.turn,kinds:=(List.range (mj x)).map (rR x),rights:=x.rights,must:=decide (x.f1.tmod 4=3),clauses:=(x.c.take 3).map (fC x.board.cells (mj x)),blocked:=if x.f3.tmod 4=3 then 1+(x.f3.tdiv 4).tmod 3 else 3,endless:=if x.f4.tmod 4=3 then 1+(x.f4.tdiv 4).tmod 3 else 2}
@[go_sem] theorem zcD (s:ByteArray):(Value.string s).oneCell'=true:=rfl
def LU (x:rM) (i:Nat):List (List AV):=((List.range i).map (rR x)).map cH
def LT (k:kT):List AV:=cH k
theorem Cg (x:rM) (i:Nat):LU x (i+1)=LU x i++ [LT (rR x i)]:=by simp [LU,List.range_succ,LT]
@[go_sem] theorem zgN (x:rM):LU x 0= []:=rfl
@[go_sem] theorem TA (x:rM) (i:Nat):(LU x i).length=i:=by simp [LU]
@[go_sem ↓] theorem bel_ksR {x:rM}{i:Nat}:(∀r ∈ LU x i,∀c ∈ r,aN n c)=True:=zbg
def FC (f:Int->List (Int×Int)) (l:List Int) (n:Nat):List (List AV):=((l.take n).map f).map λ p=> [bE p]
theorem CF (f:Int->List (Int×Int)) (l:List Int) (h:n<l.length):FC f l (n+1)=FC f l n++ [[bE (f (ac l n))]]:=by
 grind [FC,List.take_add_one,ac]
theorem uC (f:Int->List (Int×Int)) (l:List Int) (h:n<=l.length):(FC f l n).length=n:=by grind [FC]
@[go_sem] theorem zgR (f:Int->List (Int×Int)) (l:List Int):FC f l 0= []:=rfl
@[go_sem ↓] theorem bel_psR {m:Nat}{f:Int->List (Int×Int)}{l:List Int}:(∀r ∈ FC f l n,∀c ∈ r,aN m c)=True:=Qy
def QK (cells kinds:Int) (l:List (Int×Int×Int)) (n:Nat):List (List AV):=((l.take n).map (fC cells kinds)).map cd
def BF (c:Int×Int×Int×Int):List AV:=cd c
theorem NX (cells kinds:Int) (l:List (Int×Int×Int)) (h:n<l.length):QK cells kinds l (n+1)=QK cells kinds l n++ [BF (fC cells kinds (ac l n))]:=by
 grind [QK,List.take_add_one,BF,ac]
theorem Fp (cells kinds:Int) (l:List (Int×Int×Int)) (h:n<=l.length):(QK cells kinds l n).length=n:=by grind [QK]
@[go_sem] theorem zgJ (cells kinds:Int) (l:List (Int×Int×Int)):QK cells kinds l 0= []:=rfl
@[go_sem ↓] theorem bel_clR {m:Nat}{cells kinds:Int}:(∀r ∈ QK cells kinds l n,∀c ∈ r,aN m c)=True:=Qx
theorem Hy (w h cut:Int):(pO w h cut).next.length=8:=by
 grind [pO,km,eJ,me,il]
theorem Et {w h:Int} (hw:0<=w) (hh:0<=h) (cut:Int):1<=(pO w h cut).cells∧(pO w h cut).cells<=9:=by
 have a0:=Int.tmod_nonneg 3 hw;have a1:=Int.tmod_lt_of_pos w (show (0:Int)<3 by decide);have b0:=Int.tmod_nonneg 3 hh;have b1:=Int.tmod_lt_of_pos h (show (0:Int)<3 by decide);have e:(pO w h cut).cells=((1+w.tmod 3).toNat:Int) * ((1+h.tmod 3).toNat:Int):=by
  grind [pO,km,me]
 rw [e];obtain ⟨W,hW⟩:∃W:Nat,1+w.tmod 3=W:=⟨(1+w.tmod 3).toNat,ge⟩
 obtain ⟨H,hH⟩:∃H:Nat,1+h.tmod 3=H:=⟨(1+h.tmod 3).toNat,ge⟩
 rw [hW,hH,Int.toNat_natCast,Int.toNat_natCast];rcases (show W=1∨W=2∨W=3 by omega) with rfl|rfl|rfl<;>omega
@[go_sem ↓] theorem zgI {k:Nat}{l:List Int}{v:Value}:(∀r ∈ (l.map dR).set k [.v v],∀c ∈ r,aN n c)=True:=by
 refine eq_true λ r hr c hc=> ?_;rcases List.mem_or_eq_of_mem_set hr with hr|rfl
 ·exact of_eq_true S5 r hr c hc
 ·simp only [List.mem_cons,List.not_mem_nil,or_false] at hc;subst hc;exact .v _
structure uT where
 cell:List Int
 kind:List Int
 hand:List Int
 rights:Int
 side:Int
structure Ap (x:uT):Prop where
 c6:x.cell.length=6
 k6:x.kind.length=6
 h4:x.hand.length=4
 cv:∀n ∈ x.cell,U8 n
 kv:∀n ∈ x.kind,U8 n
 hv:∀n ∈ x.hand,U8 n
 r:U8 x.rights
 s:U8 x.side
def kK (x:uT):List AV:=x.cell.map (λ n=> .v (.int .u8 n))++(x.kind.map (λ n=> .v (.int .u8 n))++(x.hand.map (λ n=> .v (.int .u8 n))++ [.v (.int .u8 x.rights), .v (.int .u8 x.side)]))
theorem zfF (l:List Int) (r:List AV) (i:Nat) (h:i<l.length):mZ (l.map (λ n=>AV.v (.int .u8 n))++r) i= .v (.int .u8 (ac l i)):=by
 grind [mZ,ac,List.getElem?_append_left]
theorem LC (l:List Int) (r:List AV) (i:Nat):mZ (l.map (λ n=>AV.v (.int .u8 n))++r) (l.length+i)=mZ r i:=by
 grind [mZ]
structure zfh (x:uT) (er:List AV):Prop where
 len:er.length=18
 c:∀i,i<6->mZ er i= .v (.int .u8 (ac x.cell i))
 k:∀i,i<6->mZ er (6+i)= .v (.int .u8 (ac x.kind i))
 h:∀i,i<4->mZ er (12+i)= .v (.int .u8 (ac x.hand i))
 r:mZ er 16= .v (.int .u8 x.rights)
 s:mZ er 17= .v (.int .u8 x.side)
 b:∀n,(∀c ∈ er,aN n c)=True
theorem tL {x:uT} (hx:Ap x):zfh x (kK x):=by
 obtain ⟨a,b,c, _, _, _, _, _⟩:=hx;have e1:∀i,mZ (kK x) (6+i)=mZ (x.kind.map (λ n=>AV.v (.int .u8 n))++(x.hand.map (λ n=>AV.v (.int .u8 n))++ [.v (.int .u8 x.rights), .v (.int .u8 x.side)])) i:=λ i=>by
  grind [LC,kK]
 have e2:∀i,mZ (kK x) (12+i)=mZ (x.hand.map (λ n=>AV.v (.int .u8 n))++ [.v (.int .u8 x.rights), .v (.int .u8 x.side)]) i:=λ i=>by
  grind [LC]
 have e3:∀i,mZ (kK x) (16+i)=mZ [AV.v (.int .u8 x.rights), .v (.int .u8 x.side)] i:=λ i=>by
  grind [LC]
 refine ⟨by simp [kK,a,b,c],λ i hi=>zfF x.cell _ i ge,λ i hi=> ?_,λ i hi=> ?_,e3 0,e3 1,λ n=>eq_true ?_⟩
 ·grind [mZ,ac]
 ·grind [mZ,ac]
 ·intro c hc;simp only [kK,List.mem_append,List.mem_map,List.mem_cons,List.not_mem_nil,or_false] at hc;rcases hc with ⟨_, _,rfl⟩|⟨_, _,rfl⟩|⟨_, _,rfl⟩|rfl|rfl<;>exact .v _
def Dd (g:ae) (x:uT) (l:List Int) (i:Nat):List Int:=
 if (ac x.cell i).tmod (g.cells+1)<g.cells then l.set ((ac x.cell i).tmod (g.cells+1)).toNat (1+2 * (ac x.kind i).tmod g.kinds.length+(i:Int).tmod 2) else l
def pm (g:ae) (x:uT) (n:Nat):List Int:=(List.range n).foldl (Dd g x) (List.replicate g.cells.toNat 0)
theorem yt (g:ae) (x:uT) (n:Nat):pm g x (n+1)=Dd g x (pm g x n) n:=by simp [pm,List.range_succ]
theorem Qu (g:ae) (x:uT) (l:List Int) (i:Nat):(Dd g x l i).length=l.length:=by grind [Dd]
theorem AW (g:ae) (x:uT) (n:Nat):(pm g x n).length=g.cells.toNat:=by
 induction n<;>grind [pm,yt,Qu]
def G9 (g:ae) (x:uT) (s k:Nat):Int:=
 if (ac g.kinds k).keep=true then (if 250<ac x.hand (2 * s+k) then 8 else (ac x.hand (2 * s+k)).tmod 3) else 0
def ow (g:ae) (x:uT) (s n:Nat):List Int:=(List.range g.kinds.length).map λ j=>if j<n then G9 g x s j else 0
theorem qh (g:ae) (x:uT) (s n:Nat):(ow g x s n).length=g.kinds.length:=by simp [ow]
theorem G7 (g:ae) (x:uT) (s:Nat):ow g x s 0=List.replicate g.kinds.length 0:=by
 unfold ow;apply List.ext_getElem<;>simp
theorem G6 (g:ae) (x:uT) (s n:Nat):ow g x s (n+1)=(ow g x s n).set n (G9 g x s n):=by
 apply List.ext_getElem;all_goals grind [ow]
theorem G5 (g:ae) (x:uT) (s n:Nat) (h:G9 g x s n=0):ow g x s (n+1)=ow g x s n:=by
 grind [ow]
def qJ (g:ae) (x:uT):aa:=⟨pm g x 6,ow g x 0 (min g.kinds.length 2),ow g x 1 (min g.kinds.length 2),x.rights.tmod (2 ^ g.rights.toNat),x.side.tmod 2⟩
end Go.Av
end
